/- The stable sort of shares: its blocks. Conditions: rows of three numbers. -/
import Derived.Test.YtfeifhlnidkbbaaPSf
set_option linter.unusedVariables false
set_option linter.unusedSimpArgs false
namespace Go.Proofs.Ytfeifhlnidkbbaa.Wide
open Go Go.RowKit Go.Proofs.Ytfeifhlnidkbbaa.Vm
/-- Blocks of s rows each are sorted, up to a; behind it all is as it was. -/
structure Stb (l0 l : List Rw) (s a : Nat) : Prop where
  len : l.length = l0.length
  perm : l.Perm l0
  src : ∀ q, q < a → ∃ j, j < a ∧ j / s = q / s ∧ nth [] l q = nth [] l0 j
  out : ∀ q, a ≤ q → nth [] l q = nth [] l0 q
  srt : ∀ p q, p < q → q < a → p / s = q / s → Lt (nth [] l p) (nth [] l q)
theorem Stb.step {l0 l l' : List Rw} {s a b : Nat} (h : Stb l0 l s a) (mv : Mv l l' a b) (hs : Srt l' a b) (hb : a ≤ b) (hd : ∀ p q, p < a → a ≤ q → q < b → p / s ≠ q / s) (he : ∀ p q, a ≤ p → p < b → a ≤ q → q < b → p / s = q / s) : Stb l0 l' s b where
  len := mv.len.trans h.len
  perm := mv.perm.trans h.perm
  src := fun q hq => by
    by_cases c : q < a
    · obtain ⟨j, j1, j2, j3⟩ := h.src q c
      exact ⟨j, by omega, j2, (mv.out q (.inl c)).trans j3⟩
    · obtain ⟨j, j1, j2, j3⟩ := mv.src q (by omega) hq
      exact ⟨j, j2, he j q j1 j2 (by omega) hq, j3.trans (h.out j j1)⟩
  out := fun q hq => (mv.out q (.inr hq)).trans (h.out q (by omega))
  srt := fun p q h1 h2 h3 => by
    by_cases c : q < a
    · rw [mv.out p (.inl (by omega)), mv.out q (.inl c)]; exact h.srt p q h1 c h3
    · by_cases d : p < a
      · exact absurd h3 (hd p q d (by omega) h2)
      · exact hs p q (by omega) h1 h2
/-- The first blocks: of twenty rows each. -/
theorem stab_first {K : Nat} {l0 : List Rw} (hw : W3 l0) (hl : l0.length ≤ 1000000) (hK : l0.length + 100 < K) (hat : ∀ s t, s < t → t < l0.length → nth 0 (nth [] l0 s) 0 < nth 0 (nth [] l0 t) 0) :
    ∀ (k c : Nat) (l : List Rw), Stb l0 l 20 (20 * c) → 20 * c ≤ l0.length → l0.length - 20 * c < 20 * k →
    ∃ (c' : Nat) (l' : List Rw), F.slices_stableCmpFunc_money_share__l2 K k (l0.length : Int) 20 ((20 * c : Nat) : Int) ((20 * c + 20 : Nat) : Int) l = some ((l0.length : Int), 20, ((20 * c' : Nat) : Int), l') ∧ Stb l0 l' 20 (20 * c') ∧ 20 * c' ≤ l0.length ∧ l0.length < 20 * c' + 20
  | 0, c, l, _, _, hk => by omega
  | k + 1, c, l, h, hc, hk => by
    rw [F.slices_stableCmpFunc_money_share__l2, bi_eq]
    by_cases d : 20 * c + 20 ≤ l0.length
    · have hw' : W3 l := fun r hr => hw r (h.perm.mem_iff.1 hr)
      obtain ⟨l1, e1, mv, sr⟩ := ins_sort (K := K) (a := 20 * c) (b := 20 * c + 20) (by omega) hw' (by rw [h.len]; exact hl) (by omega) (by rw [h.len]; exact d) fun s t s1 s2 s3 => by
        rw [h.out s s1, h.out t (by omega)]; exact hat s t s2 (by omega)
      rw [if_pos (by simp; omega), e1, Option.bind_some, show IntKind.i64.wrap (((20 * c + 20 : Nat) : Int) + 20) = ((20 * (c + 1) + 20 : Nat) : Int) by rw [iw (by omega) (by omega)]; omega]
      have h' : Stb l0 l1 20 (20 * (c + 1)) := by
        rw [show 20 * (c + 1) = 20 * c + 20 by omega]
        exact h.step mv sr (by omega) (fun p q p1 q1 q2 => by omega) (fun p q p1 p2 q1 q2 => by omega)
      have := stab_first hw hl hK hat k (c + 1) l1 h' (by omega) (by omega)
      rwa [show ((20 * (c + 1) : Nat) : Int) = ((20 * c + 20 : Nat) : Int) by omega] at this
    · rw [if_neg (by simp; omega)]
      exact ⟨c, l, rfl, h, hc, by omega⟩
theorem stab_tail {K c : Nat} {l0 l : List Rw} (hw : W3 l0) (hl : l0.length ≤ 1000000) (hK : l0.length + 100 < K) (hat : ∀ s t, s < t → t < l0.length → nth 0 (nth [] l0 s) 0 < nth 0 (nth [] l0 t) 0)
    (h : Stb l0 l 20 (20 * c)) (hc : 20 * c ≤ l0.length) (hn : l0.length < 20 * c + 20) : ∃ l', F.slices_insertionSortCmpFunc_money_share_ K l ((20 * c : Nat) : Int) (l0.length : Int) = some l' ∧ Stb l0 l' 20 l0.length := by
  have hw' : W3 l := fun r hr => hw r (h.perm.mem_iff.1 hr)
  obtain ⟨l1, e1, mv, sr⟩ := ins_sort (K := K) (a := 20 * c) (b := l0.length) (by omega) hw' (by rw [h.len]; exact hl) hc (by rw [h.len]; exact Nat.le_refl _) fun s t s1 s2 s3 => by
    rw [h.out s s1, h.out t (by omega)]; exact hat s t s2 s3
  exact ⟨l1, e1, h.step mv sr hc (fun p q p1 q1 q2 => by omega) (fun p q p1 p2 q1 q2 => by omega)⟩
/-- Blocks of s rows on the way to blocks of twice as many: done up to a. -/
structure Mx (l0 l : List Rw) (s a n : Nat) : Prop where
  len : l.length = l0.length
  perm : l.Perm l0
  src : ∀ q, q < n → ∃ j, j < n ∧ j / (2 * s) = q / (2 * s) ∧ (a ≤ q → j / s = q / s) ∧ nth [] l q = nth [] l0 j
  srt : ∀ p q, p < q → q < n → p / (2 * s) = q / (2 * s) → (q < a ∨ p / s = q / s) → Lt (nth [] l p) (nth [] l q)
theorem mx_step {K s a b : Nat} (hs : s = 20 ∨ s = 40) {l0 l : List Rw} (hw : W3 l0) (hl : l0.length ≤ 1000000) (hK : l0.length + 100 < K) (hat : ∀ s t, s < t → t < l0.length → nth 0 (nth [] l0 s) 0 < nth 0 (nth [] l0 t) 0)
    (h : Mx l0 l s a l0.length) (ha : a % (2 * s) = 0) (hb1 : a + s < b) (hb2 : b ≤ a + 2 * s) (hb3 : b ≤ l0.length) (hb4 : b = a + 2 * s ∨ b = l0.length) :
    ∃ l', F.slices_symMergeCmpFunc_money_share__r K K l (a : Int) ((a + s : Nat) : Int) (b : Int) = some l' ∧ Mx l0 l' s b l0.length := by
  have hw' : W3 l := fun r hr => hw r (h.perm.mem_iff.1 hr)
  have at2 : ∀ p q, a ≤ p → p < a + s → a + s ≤ q → q < b → nth 0 (nth [] l p) 0 < nth 0 (nth [] l q) 0 := fun p q p1 p2 q1 q2 => by
    obtain ⟨i, i1, i2, i3, i4⟩ := h.src p (by omega)
    obtain ⟨j, j1, j2, j3, j4⟩ := h.src q (by omega)
    have i5 := i3 p1
    have j5 := j3 (by omega)
    rw [i4, j4]
    exact hat i j (by rcases hs with rfl | rfl <;> omega) j1
  obtain ⟨l', e, mv, sr⟩ := sym_ok (K := K) K a (a + s) b l hw' (by rw [h.len]; exact hl) (by rw [h.len]; omega) (by rcases hs with rfl | rfl <;> omega) hb1 (by rw [h.len]; exact hb3) (by omega)
    (fun p q p1 p2 q1 => h.srt p q p2 (by omega) (by rcases hs with rfl | rfl <;> omega) (.inr (by rcases hs with rfl | rfl <;> omega)))
    (fun p q p1 p2 q1 => h.srt p q p2 (by omega) (by rcases hs with rfl | rfl <;> omega) (.inr (by rcases hs with rfl | rfl <;> omega))) at2
  refine ⟨l', e, mv.len.trans h.len, mv.perm.trans h.perm, fun q hq => ?_, fun p q p1 q1 p2 p3 => ?_⟩
  · by_cases c : a ≤ q ∧ q < b
    · obtain ⟨j, j1, j2, j3⟩ := mv.src q c.1 c.2
      obtain ⟨i, i1, i2, i3, i4⟩ := h.src j (by omega)
      refine ⟨i, i1, ?_, fun k => by omega, j3.trans i4⟩
      rcases hs with rfl | rfl <;> omega
    · obtain ⟨i, i1, i2, i3, i4⟩ := h.src q hq
      exact ⟨i, i1, i2, fun k => i3 (by omega), (mv.out q (by omega)).trans i4⟩
  · by_cases c : a ≤ q ∧ q < b
    · by_cases d : a ≤ p
      · exact sr p q d p1 c.2
      · exfalso; rcases hs with rfl | rfl <;> omega
    · by_cases d : a ≤ p ∧ p < b
      · exfalso; rcases hs with rfl | rfl <;> omega
      · rw [mv.out p (by omega), mv.out q (by omega)]
        exact h.srt p q p1 q1 p2 (by omega)
theorem mx_loop {K s : Nat} (hs : s = 20 ∨ s = 40) {l0 : List Rw} (hw : W3 l0) (hl : l0.length ≤ 1000000) (hK : l0.length + 100 < K) (hat : ∀ s t, s < t → t < l0.length → nth 0 (nth [] l0 s) 0 < nth 0 (nth [] l0 t) 0) :
    ∀ (k a : Nat) (l : List Rw), Mx l0 l s a l0.length → a % (2 * s) = 0 → a ≤ l0.length → l0.length - a < k →
    ∃ (a' : Nat) (l' : List Rw), F.slices_stableCmpFunc_money_share__l9 K k (l0.length : Int) (s : Int) (a : Int) ((a + 2 * s : Nat) : Int) l = some ((l0.length : Int), (s : Int), (a' : Int), l') ∧ Mx l0 l' s a' l0.length ∧ a' % (2 * s) = 0 ∧ a' ≤ l0.length ∧ l0.length < a' + 2 * s
  | 0, a, l, _, _, _, hk => by omega
  | k + 1, a, l, h, ha, han, hk => by
    rw [F.slices_stableCmpFunc_money_share__l9, bi_eq]
    by_cases d : a + 2 * s ≤ l0.length
    · have hs0 : 0 < s := by rcases hs with rfl | rfl <;> decide
      obtain ⟨l1, e1, h1⟩ := mx_step (a := a) (b := a + 2 * s) hs hw hl hK hat h ha (by omega) (Nat.le_refl _) d (.inl rfl)
      have e2 : IntKind.i64.wrap ((a : Int) + s) = ((a + s : Nat) : Int) := by rw [iw (by omega) (by omega)]; omega
      have e3 : IntKind.i64.wrap (((a + 2 * s : Nat) : Int) + IntKind.i64.wrap (2 * (s : Int))) = ((a + 2 * s + 2 * s : Nat) : Int) := by rw [iw (x := 2 * (s : Int)) (by omega) (by omega), iw (by omega) (by omega)]; omega
      rw [if_pos (by simp; omega), e2, e1, Option.bind_some, e3]
      exact mx_loop hs hw hl hK hat k (a + 2 * s) l1 h1 (by rcases hs with rfl | rfl <;> omega) d (by omega)
    · rw [if_neg (by simp; omega)]
      exact ⟨a, l, rfl, h, ha, han, by omega⟩
/-- One round: blocks of s rows come to blocks of twice as many. -/
theorem mx_round {K s : Nat} (hs : s = 20 ∨ s = 40) {l0 l : List Rw} (hw : W3 l0) (hl : l0.length ≤ 1000000) (hK : l0.length + 100 < K) (hat : ∀ s t, s < t → t < l0.length → nth 0 (nth [] l0 s) 0 < nth 0 (nth [] l0 t) 0)
    (h : Stb l0 l s l0.length) (k : Nat) (hsn : s < l0.length) : ∃ l', F.slices_stableCmpFunc_money_share__l7 K (k + 1) (l0.length : Int) (s : Int) l = F.slices_stableCmpFunc_money_share__l7 K k (l0.length : Int) ((2 * s : Nat) : Int) l' ∧ Stb l0 l' (2 * s) l0.length := by
  have h0 : Mx l0 l s 0 l0.length := ⟨h.len, h.perm, fun q hq => by
    obtain ⟨j, j1, j2, j3⟩ := h.src q hq
    exact ⟨j, j1, by rcases hs with rfl | rfl <;> omega, fun _ => j2, j3⟩, fun p q p1 q1 p2 p3 => h.srt p q p1 q1 (by omega)⟩
  obtain ⟨a, l1, e1, h1, g1, g2, g3⟩ := mx_loop hs hw hl hK hat K 0 l h0 (by simp) (by omega) (by omega)
  have e1 : F.slices_stableCmpFunc_money_share__l9 K K (l0.length : Int) (s : Int) 0 (IntKind.i64.wrap (2 * (s : Int))) l = some ((l0.length : Int), (s : Int), (a : Int), l1) := by
    rw [iw (x := 2 * (s : Int)) (by rcases hs with rfl | rfl <;> decide) (by rcases hs with rfl | rfl <;> decide), show 2 * (s : Int) = ((0 + 2 * s : Nat) : Int) by omega]; exact e1
  have e2 : IntKind.i64.wrap ((a : Int) + s) = ((a + s : Nat) : Int) := by rw [iw (by omega) (by omega)]; omega
  have e3 : IntKind.i64.wrap ((s : Int) * 2) = ((2 * s : Nat) : Int) := by rw [iw (by omega) (by omega)]; omega
  have fin : ∀ {l2 : List Rw} {a2 : Nat}, Mx l0 l2 s a2 l0.length → a2 % (2 * s) = 0 ∧ l0.length ≤ a2 + s ∨ a2 = l0.length → Stb l0 l2 (2 * s) l0.length := fun {l2 a2} m hm => ⟨m.len, m.perm, fun q hq => by
    obtain ⟨j, j1, j2, _, j4⟩ := m.src q hq
    exact ⟨j, j1, j2, j4⟩, fun q hq => by
    rw [nth_eq, nth_eq, List.getD_eq_getElem?_getD, List.getD_eq_getElem?_getD, List.getElem?_eq_none (by have := m.len; omega), List.getElem?_eq_none (by omega)], fun p q p1 q1 p2 => m.srt p q p1 q1 p2 (by rcases hs with rfl | rfl <;> omega)⟩
  rw [F.slices_stableCmpFunc_money_share__l7]
  simp only [bi_eq]
  rw [if_pos (by simpa using hsn), e1, Option.bind_some]
  simp only
  rw [e2, e3]
  by_cases d : a + s < l0.length
  · obtain ⟨l2, e4, h2⟩ := mx_step (a := a) (b := l0.length) hs hw hl hK hat h1 g1 d (by omega) (Nat.le_refl _) (.inr rfl)
    rw [if_pos (by simp; omega), e4, Option.bind_some]
    exact ⟨l2, rfl, fin h2 (.inr rfl)⟩
  · rw [if_neg (by simp; omega)]
    exact ⟨l1, rfl, fin h1 (.inl ⟨g1, by omega⟩)⟩
/-- The stable sort of at most 64 shares: in the order of their rests, then of their places. -/
theorem stable_ok {K : Nat} {l0 : List Rw} (hw : W3 l0) (hl : l0.length ≤ 64) (hK : 200 < K) (hat : ∀ s t, s < t → t < l0.length → nth 0 (nth [] l0 s) 0 < nth 0 (nth [] l0 t) 0) :
    ∃ l', F.slices_SortStableFunc___money_share_money_share_ K l0 = some l' ∧ l'.length = l0.length ∧ l'.Perm l0 ∧ Srt l' 0 l0.length := by
  have hl' : l0.length ≤ 1000000 := by omega
  have hK' : l0.length + 100 < K := by omega
  have z : Stb l0 l0 20 (20 * 0) := ⟨rfl, List.Perm.refl _, fun q hq => by omega, fun _ _ => rfl, fun p q _ hq => by omega⟩
  obtain ⟨c, l1, e1, h1, c1, c2⟩ := stab_first hw hl' hK' hat K 0 l0 z (by omega) (by omega)
  obtain ⟨l2, e2, h2⟩ := stab_tail hw hl' hK' hat h1 c1 c2
  have stop : ∀ (k s : Nat) (l : List Rw), l0.length ≤ s → F.slices_stableCmpFunc_money_share__l7 K (k + 1) (l0.length : Int) (s : Int) l = some l := fun k s l h => by
    rw [F.slices_stableCmpFunc_money_share__l7, bi_eq, if_neg (by simp; omega)]
  have whole : ∀ (s : Nat) (l : List Rw), Stb l0 l s l0.length → l0.length ≤ s → Srt l 0 l0.length := fun s l h hs i j _ i2 i3 => h.srt i j i2 i3 (by rw [Nat.div_eq_of_lt (by omega), Nat.div_eq_of_lt (by omega)])
  obtain ⟨k, hk⟩ : ∃ k, K = k + 5 := ⟨K - 5, by omega⟩
  have rounds : ∃ l3, F.slices_stableCmpFunc_money_share__l7 K K (l0.length : Int) 20 l2 = some l3 ∧ l3.length = l0.length ∧ l3.Perm l0 ∧ Srt l3 0 l0.length := by
    have e : F.slices_stableCmpFunc_money_share__l7 K K (l0.length : Int) 20 l2 = F.slices_stableCmpFunc_money_share__l7 K (k + 4 + 1) (l0.length : Int) ((20 : Nat) : Int) l2 := by rw [← hk]; rfl
    by_cases d1 : 20 < l0.length
    · obtain ⟨l3, e3, h3⟩ := mx_round (s := 20) (.inl rfl) hw hl' hK' hat h2 (k + 4) d1
      by_cases d2 : 40 < l0.length
      · obtain ⟨l4, e4, h4⟩ := mx_round (s := 40) (.inr rfl) hw hl' hK' hat h3 (k + 3) d2
        exact ⟨l4, by rw [e, e3]; exact e4.trans (stop (k + 2) (2 * 40) l4 (by omega)), h4.len, h4.perm, whole _ l4 h4 (by omega)⟩
      · exact ⟨l3, by rw [e, e3]; exact stop (k + 3) (2 * 20) l3 (by omega), h3.len, h3.perm, whole _ l3 h3 (by omega)⟩
    · exact ⟨l2, by rw [e]; exact stop (k + 4) 20 l2 (by omega), h2.len, h2.perm, whole _ l2 h2 (by omega)⟩
  obtain ⟨l3, e3, h3, h4, h5⟩ := rounds
  refine ⟨l3, ?_, h3, h4, h5⟩
  have e1' : F.slices_stableCmpFunc_money_share__l2 K K (l0.length : Int) 20 0 20 l0 = some ((l0.length : Int), 20, ((20 * c : Nat) : Int), l1) := e1
  unfold F.slices_SortStableFunc___money_share_money_share_ F.slices_stableCmpFunc_money_share_
  rw [e1', Option.bind_some]
  simp only
  rw [e2, Option.bind_some, e3, Option.bind_some, bi_eq, if_pos (by simpa using h3), Option.bind_some, bi_eq, if_pos (by simpa using h3)]
end Go.Proofs.Ytfeifhlnidkbbaa.Wide
