/- What the merge of shares does within: halving searches, shifts. Conditions: rows of three numbers. -/
import Derived.Test.YtfeifhlnidkbbaaPSc
set_option linter.unusedVariables false
set_option linter.unusedSimpArgs false
namespace Go.Proofs.Ytfeifhlnidkbbaa.Wide
open Go Go.RowKit Go.Proofs.Ytfeifhlnidkbbaa.Vm
theorem half_ok {a b : Nat} (h : a + b ≤ 10000000) : IntKind.i64.wrap ((IntKind.u64.wrap (IntKind.i64.wrap ((a : Int) + b))).fdiv 2) = (((a + b) / 2 : Nat) : Int) := by
  rw [iw (x := (a : Int) + b) (by omega) (by omega), uw (by omega) (by omega), fd _ _ (by decide), iw (by omega) (by omega)]; omega
theorem Rot.id (l : List Rw) (p : Nat) : Rot l l p 1 0 := ⟨rfl, List.Perm.refl _, fun q => by
  rw [if_neg (by omega)]
  by_cases h : p + 0 ≤ q ∧ q < p + 1 + 0
  · rw [if_pos h]; rfl
  · rw [if_neg h]⟩
theorem Rot.id' (l : List Rw) (p : Nat) : Rot l l p 0 1 := ⟨rfl, List.Perm.refl _, fun q => by
  by_cases h : p ≤ q ∧ q < p + 1
  · rw [if_pos h]; rfl
  · rw [if_neg h, if_neg (by omega)]⟩
/-- The first row of a part goes to its end. -/
theorem shift_up {K i : Nat} : ∀ (k x : Nat) (l : List Rw), W3 l → l.length ≤ 1000000 → 0 < i → i ≤ l.length → i - x < k → x < i →
    ∃ l', F.slices_symMergeCmpFunc_money_share__l9 K k i x l = some l' ∧ Rot l l' x 1 (i - 1 - x)
  | 0, x, l, _, _, _, _, hk, _ => by omega
  | k + 1, x, l, hw, hl, h0, hi, hk, hx => by
    have e1 : IntKind.i64.wrap ((i : Int) - 1) = ((i - 1 : Nat) : Int) := by rw [iw (by omega) (by omega)]; omega
    have e2 : IntKind.i64.wrap ((x : Int) + 1) = ((x + 1 : Nat) : Int) := by rw [iw (by omega) (by omega)]; omega
    rw [F.slices_symMergeCmpFunc_money_share__l9, bi_eq, e1]
    by_cases c : x < i - 1
    · have hx' : x < l.length := by omega
      have hy' : x + 1 < l.length := by omega
      have c1 : (decide (0 ≤ ((x + 1 : Nat) : Int)) && decide (((x + 1 : Nat) : Int) < (l.length : Int))) = true := by simp; omega
      have c2 : (decide (0 ≤ (x : Int)) && decide ((x : Int) < (l.length : Int))) = true := by simp; omega
      rw [if_pos (by simp; omega)]
      simp only [bi_eq, e2, Int.toNat_natCast, row3 hw hx', row3 hw hy', List.length_set]
      rw [c1, c2, if_pos rfl, if_pos rfl, if_pos rfl, if_pos rfl]
      have mv : Mv l (swp l x (x + 1)) 0 l.length := swp_mv hx' hy' (by omega) (by omega) (by omega) (by omega)
      obtain ⟨l', r1, r2⟩ := shift_up (K := K) k (x + 1) (swp l x (x + 1)) (hw.mv mv) (by rw [mv.len]; exact hl) h0 (by rw [mv.len]; exact hi) (by omega) (by omega)
      refine ⟨l', r1, r2.len.trans mv.len, r2.perm.trans mv.perm, fun q => ?_⟩
      rw [r2.at_ q]
      by_cases q1 : x + 1 ≤ q ∧ q < x + 1 + (i - 1 - (x + 1))
      · rw [if_pos q1, if_pos (by omega), swp_nth hx' hy', if_neg (by omega), if_neg (by omega)]
      · rw [if_neg q1]
        by_cases q2 : x + 1 + (i - 1 - (x + 1)) ≤ q ∧ q < x + 1 + 1 + (i - 1 - (x + 1))
        · rw [if_pos q2, if_neg (by omega), if_pos (by omega), swp_nth hx' hy', if_pos (by omega)]
          congr 1; omega
        · rw [if_neg q2, swp_nth hx' hy', if_neg (by omega)]
          by_cases q3 : q = x
          · rw [if_pos q3, if_pos (by omega), q3]
          · rw [if_neg q3, if_neg (by omega), if_neg (by omega)]
    · rw [if_neg (by simp; omega)]
      refine ⟨l, rfl, ?_⟩
      rw [show i - 1 - x = 0 by omega]; exact Rot.id l x
/-- The last row of a part goes to its beginning. -/
theorem shift_down {K i : Nat} : ∀ (k x : Nat) (l : List Rw), W3 l → l.length ≤ 1000000 → x < l.length → i ≤ x → x - i < k →
    ∃ l', F.slices_symMergeCmpFunc_money_share__l21 K k i x l = some l' ∧ Rot l l' i (x - i) 1
  | 0, x, l, _, _, _, _, hk => by omega
  | k + 1, x, l, hw, hl, hx, hi, hk => by
    rw [F.slices_symMergeCmpFunc_money_share__l21, bi_eq]
    by_cases c : i < x
    · have e2 : IntKind.i64.wrap ((x : Int) - 1) = ((x - 1 : Nat) : Int) := by rw [iw (by omega) (by omega)]; omega
      have hy' : x - 1 < l.length := by omega
      have c1 : (decide (0 ≤ ((x - 1 : Nat) : Int)) && decide (((x - 1 : Nat) : Int) < (l.length : Int))) = true := by simp; omega
      have c2 : (decide (0 ≤ (x : Int)) && decide ((x : Int) < (l.length : Int))) = true := by simp; omega
      rw [if_pos (by simp; omega)]
      simp only [bi_eq, e2, Int.toNat_natCast, row3 hw hx, row3 hw hy', List.length_set]
      rw [c1, c2, if_pos rfl, if_pos rfl, if_pos rfl, if_pos rfl]
      have mv : Mv l (swp l x (x - 1)) 0 l.length := swp_mv hx hy' (by omega) (by omega) (by omega) (by omega)
      obtain ⟨l', r1, r2⟩ := shift_down (K := K) (i := i) k (x - 1) (swp l x (x - 1)) (hw.mv mv) (by rw [mv.len]; exact hl) (by rw [mv.len]; omega) (by omega) (by omega)
      refine ⟨l', r1, r2.len.trans mv.len, r2.perm.trans mv.perm, fun q => ?_⟩
      rw [r2.at_ q]
      by_cases q1 : i ≤ q ∧ q < i + 1
      · rw [if_pos q1, if_pos q1, swp_nth hx hy', if_pos (by omega)]
        congr 1; omega
      · rw [if_neg q1, if_neg q1]
        by_cases q2 : i + 1 ≤ q ∧ q < i + (x - 1 - i) + 1
        · rw [if_pos q2, if_pos (by omega), swp_nth hx hy', if_neg (by omega), if_neg (by omega)]
        · rw [if_neg q2, swp_nth hx hy']
          by_cases q3 : q = x
          · rw [if_neg (by omega), if_pos q3, if_pos (by omega), q3]
          · rw [if_neg (by omega), if_neg q3, if_neg (by omega)]
    · rw [if_neg (by simp; omega)]
      refine ⟨l, rfl, ?_⟩
      rw [show x - i = 0 by omega]; exact Rot.id' l i
/-- A search by halves: where a fact that holds of the first ones holds no more. -/
theorem search_up {K a : Nat} {l : List Rw} (hw : W3 l) (hl : l.length ≤ 1000000) (ha : a < l.length) {lo hi : Nat} (hh : hi ≤ l.length) (mono : ∀ s t, lo ≤ s → s < t → t < hi → nth 0 (nth [] l a) 1 < nth 0 (nth [] l t) 1 → nth 0 (nth [] l a) 1 < nth 0 (nth [] l s) 1) :
    ∀ (k i j : Nat), lo ≤ i → i ≤ j → j ≤ hi → j - i < k → (∀ t, lo ≤ t → t < i → nth 0 (nth [] l a) 1 < nth 0 (nth [] l t) 1) → (∀ t, j ≤ t → t < hi → ¬ nth 0 (nth [] l a) 1 < nth 0 (nth [] l t) 1) →
    ∃ r : Nat, F.slices_symMergeCmpFunc_money_share__l3 K k a i j l = some ((a : Int), (r : Int), l) ∧ lo ≤ r ∧ r ≤ hi ∧ (∀ t, lo ≤ t → t < r → nth 0 (nth [] l a) 1 < nth 0 (nth [] l t) 1) ∧ (∀ t, r ≤ t → t < hi → ¬ nth 0 (nth [] l a) 1 < nth 0 (nth [] l t) 1)
  | 0, i, j, _, _, _, hk, _, _ => by omega
  | k + 1, i, j, h1, h2, h3, hk, p1, p2 => by
    rw [F.slices_symMergeCmpFunc_money_share__l3, bi_eq]
    by_cases c : i < j
    · have e1 := half_ok (a := i) (b := j) (by omega)
      have hm : (i + j) / 2 < l.length := by omega
      have c1 : (decide (0 ≤ (((i + j) / 2 : Nat) : Int)) && decide ((((i + j) / 2 : Nat) : Int) < (l.length : Int))) = true := by simp; omega
      have c2 : (decide (0 ≤ (a : Int)) && decide ((a : Int) < (l.length : Int))) = true := by simp; omega
      have e2 : IntKind.i64.wrap ((((i + j) / 2 : Nat) : Int) + 1) = (((i + j) / 2 + 1 : Nat) : Int) := by rw [iw (by omega) (by omega)]; omega
      rw [if_pos (by simpa using c)]
      simp only [e1, e2, bi_eq, Int.toNat_natCast, split1_ok, Option.bind_some]
      rw [c1, c2, if_pos rfl, if_pos rfl]
      by_cases d : nth 0 (nth [] l a) 1 < nth 0 (nth [] l ((i + j) / 2)) 1
      · rw [if_pos (by simpa using (cmp3_neg _ _).2 d)]
        refine search_up hw hl ha hh mono k ((i + j) / 2 + 1) j (by omega) (by omega) h3 (by omega) (fun t t1 t2 => ?_) p2
        by_cases e : t = (i + j) / 2
        · rw [e]; exact d
        · exact mono t ((i + j) / 2) t1 (by omega) (by omega) d
      · rw [if_neg (by simpa using fun k => d ((cmp3_neg _ _).1 k))]
        refine search_up hw hl ha hh mono k i ((i + j) / 2) h1 (by omega) (by omega) (by omega) p1 (fun t t1 t2 q => ?_)
        by_cases e : t = (i + j) / 2
        · subst e; exact d q
        · exact d (mono ((i + j) / 2) t (by omega) (by omega) t2 q)
    · rw [if_neg (by simpa using c)]
      exact ⟨i, rfl, h1, by omega, p1, fun t t1 t2 => p2 t (by omega) t2⟩
theorem search_down {K m : Nat} {l : List Rw} (hw : W3 l) (hl : l.length ≤ 1000000) (ha : m < l.length) {lo hi : Nat} (hh : hi ≤ l.length) (mono : ∀ s t, lo ≤ s → s < t → t < hi → ¬ nth 0 (nth [] l t) 1 < nth 0 (nth [] l m) 1 → ¬ nth 0 (nth [] l s) 1 < nth 0 (nth [] l m) 1) :
    ∀ (k i j : Nat), lo ≤ i → i ≤ j → j ≤ hi → j - i < k → (∀ t, lo ≤ t → t < i → ¬ nth 0 (nth [] l t) 1 < nth 0 (nth [] l m) 1) → (∀ t, j ≤ t → t < hi → nth 0 (nth [] l t) 1 < nth 0 (nth [] l m) 1) →
    ∃ r : Nat, F.slices_symMergeCmpFunc_money_share__l15 K k m i j l = some ((m : Int), (r : Int), l) ∧ lo ≤ r ∧ r ≤ hi ∧ (∀ t, lo ≤ t → t < r → ¬ nth 0 (nth [] l t) 1 < nth 0 (nth [] l m) 1) ∧ (∀ t, r ≤ t → t < hi → nth 0 (nth [] l t) 1 < nth 0 (nth [] l m) 1)
  | 0, i, j, _, _, _, hk, _, _ => by omega
  | k + 1, i, j, h1, h2, h3, hk, p1, p2 => by
    rw [F.slices_symMergeCmpFunc_money_share__l15, bi_eq]
    by_cases c : i < j
    · have e1 := half_ok (a := i) (b := j) (by omega)
      have hm : (i + j) / 2 < l.length := by omega
      have c1 : (decide (0 ≤ (((i + j) / 2 : Nat) : Int)) && decide ((((i + j) / 2 : Nat) : Int) < (l.length : Int))) = true := by simp; omega
      have c2 : (decide (0 ≤ (m : Int)) && decide ((m : Int) < (l.length : Int))) = true := by simp; omega
      have e2 : IntKind.i64.wrap ((((i + j) / 2 : Nat) : Int) + 1) = (((i + j) / 2 + 1 : Nat) : Int) := by rw [iw (by omega) (by omega)]; omega
      rw [if_pos (by simpa using c)]
      simp only [e1, e2, bi_eq, Int.toNat_natCast, split1_ok, Option.bind_some]
      rw [c1, c2, if_pos rfl, if_pos rfl]
      by_cases d : nth 0 (nth [] l ((i + j) / 2)) 1 < nth 0 (nth [] l m) 1
      · have hd : decide (cmp3' (nth 0 (nth [] l ((i + j) / 2)) 1) (nth 0 (nth [] l m) 1) < 0) = true := decide_eq_true ((cmp3_neg _ _).2 d)
        rw [hd, if_neg (by decide)]
        refine search_down hw hl ha hh mono k i ((i + j) / 2) h1 (by omega) (by omega) (by omega) p1 (fun t t1 t2 => ?_)
        by_cases e : t = (i + j) / 2
        · subst e; exact d
        · exact Classical.byContradiction fun q => mono ((i + j) / 2) t (by omega) (by omega) t2 q d
      · have hd : decide (cmp3' (nth 0 (nth [] l ((i + j) / 2)) 1) (nth 0 (nth [] l m) 1) < 0) = false := decide_eq_false fun q => d ((cmp3_neg _ _).1 q)
        rw [hd, if_pos (by decide)]
        refine search_down hw hl ha hh mono k ((i + j) / 2 + 1) j (by omega) (by omega) h3 (by omega) (fun t t1 t2 => ?_) p2
        by_cases e : t = (i + j) / 2
        · rw [e]; exact d
        · exact mono t ((i + j) / 2) t1 (by omega) (by omega) d
    · rw [if_neg (by simpa using c)]
      exact ⟨i, rfl, h1, by omega, p1, fun t t1 t2 => p2 t (by omega) t2⟩
/-- The search of the merge: rows are held against those that stand as far from the other end. -/
theorem search_sym {K p : Nat} {x1 x2 x3 x18 x19 : Int} {l : List Rw} (hw : W3 l) (hl : l.length ≤ 1000000) (hp : p ≤ 10000000) {lo hi : Nat} (hh : hi ≤ l.length) (hlp : ∀ t, lo ≤ t → t < hi → t ≤ p ∧ p - t < l.length)
    (mono : ∀ s t, lo ≤ s → s < t → t < hi → ¬ nth 0 (nth [] l t) 1 < nth 0 (nth [] l (p - t)) 1 → ¬ nth 0 (nth [] l s) 1 < nth 0 (nth [] l (p - s)) 1) :
    ∀ (k i j : Nat), lo ≤ i → i ≤ j → j ≤ hi → j - i < k → (∀ t, lo ≤ t → t < i → ¬ nth 0 (nth [] l t) 1 < nth 0 (nth [] l (p - t)) 1) → (∀ t, j ≤ t → t < hi → nth 0 (nth [] l t) 1 < nth 0 (nth [] l (p - t)) 1) →
    ∃ r : Nat, F.slices_symMergeCmpFunc_money_share__l33 K k x1 x2 x3 x18 x19 i j p l = some (x1, x2, x3, x18, x19, (r : Int), l) ∧ lo ≤ r ∧ r ≤ hi ∧ (∀ t, lo ≤ t → t < r → ¬ nth 0 (nth [] l t) 1 < nth 0 (nth [] l (p - t)) 1) ∧ (∀ t, r ≤ t → t < hi → nth 0 (nth [] l t) 1 < nth 0 (nth [] l (p - t)) 1)
  | 0, i, j, _, _, _, hk, _, _ => by omega
  | k + 1, i, j, h1, h2, h3, hk, p1, p2 => by
    rw [F.slices_symMergeCmpFunc_money_share__l33, bi_eq]
    by_cases c : i < j
    · have e1 := half_ok (a := i) (b := j) (by omega)
      have hm : (i + j) / 2 < l.length := by omega
      obtain ⟨g1, g2⟩ := hlp ((i + j) / 2) (by omega) (by omega)
      have e3 : IntKind.i64.wrap ((p : Int) - (((i + j) / 2 : Nat) : Int)) = ((p - (i + j) / 2 : Nat) : Int) := by rw [iw (by omega) (by omega)]; omega
      have c1 : (decide (0 ≤ (((i + j) / 2 : Nat) : Int)) && decide ((((i + j) / 2 : Nat) : Int) < (l.length : Int))) = true := by simp; omega
      have c2 : (decide (0 ≤ ((p - (i + j) / 2 : Nat) : Int)) && decide (((p - (i + j) / 2 : Nat) : Int) < (l.length : Int))) = true := by simp; omega
      have e2 : IntKind.i64.wrap ((((i + j) / 2 : Nat) : Int) + 1) = (((i + j) / 2 + 1 : Nat) : Int) := by rw [iw (by omega) (by omega)]; omega
      rw [if_pos (by simpa using c)]
      simp only [e1, e2, e3, bi_eq, Int.toNat_natCast, split1_ok, Option.bind_some]
      rw [c1, c2, if_pos rfl, if_pos rfl]
      by_cases d : nth 0 (nth [] l ((i + j) / 2)) 1 < nth 0 (nth [] l (p - (i + j) / 2)) 1
      · have hd : decide (cmp3' (nth 0 (nth [] l ((i + j) / 2)) 1) (nth 0 (nth [] l (p - (i + j) / 2)) 1) < 0) = true := decide_eq_true ((cmp3_neg _ _).2 d)
        rw [hd, if_neg (by decide)]
        refine search_sym hw hl hp hh hlp mono k i ((i + j) / 2) h1 (by omega) (by omega) (by omega) p1 (fun t t1 t2 => ?_)
        by_cases e : t = (i + j) / 2
        · subst e; exact d
        · exact Classical.byContradiction fun q => mono ((i + j) / 2) t (by omega) (by omega) t2 q d
      · have hd : decide (cmp3' (nth 0 (nth [] l ((i + j) / 2)) 1) (nth 0 (nth [] l (p - (i + j) / 2)) 1) < 0) = false := decide_eq_false fun q => d ((cmp3_neg _ _).1 q)
        rw [hd, if_pos (by decide)]
        refine search_sym hw hl hp hh hlp mono k ((i + j) / 2 + 1) j (by omega) (by omega) h3 (by omega) (fun t t1 t2 => ?_) p2
        by_cases e : t = (i + j) / 2
        · rw [e]; exact d
        · exact mono t ((i + j) / 2) t1 (by omega) (by omega) d
    · rw [if_neg (by simpa using c)]
      exact ⟨i, rfl, h1, by omega, p1, fun t t1 t2 => p2 t (by omega) t2⟩
end Go.Proofs.Ytfeifhlnidkbbaa.Wide
