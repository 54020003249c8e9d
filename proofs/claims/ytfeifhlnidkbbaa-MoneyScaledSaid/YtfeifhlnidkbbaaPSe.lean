/- The merge of shares. Conditions: rows of three numbers. -/
import Derived.Test.YtfeifhlnidkbbaaPSd
set_option linter.unusedVariables false
set_option linter.unusedSimpArgs false
namespace Go.Proofs.Ytfeifhlnidkbbaa.Wide
open Go Go.RowKit Go.Proofs.Ytfeifhlnidkbbaa.Vm
/-- Of a row of the left run and one of the right run: which comes first. -/
theorem lt_lr {c d : Rw} (h : nth 0 c 0 < nth 0 d 0) : Lt c d ↔ ¬ nth 0 c 1 < nth 0 d 1 := by unfold Lt; omega
theorem lt_rl {c d : Rw} (h : nth 0 c 0 < nth 0 d 0) : Lt d c ↔ nth 0 c 1 < nth 0 d 1 := by unfold Lt; omega
theorem Srt.le {l : List Rw} {a b : Nat} (h : Srt l a b) {i j : Nat} (h1 : a ≤ i) (h2 : i ≤ j) (h3 : j < b) {x : Rw} (k : Lt (nth [] l j) x) : Lt (nth [] l i) x := by
  by_cases e : i = j
  · rw [e]; exact k
  · exact (h i j h1 (by omega) h3).trans k
theorem Srt.ge {l : List Rw} {a b : Nat} (h : Srt l a b) {i j : Nat} (h1 : a ≤ i) (h2 : i ≤ j) (h3 : j < b) {x : Rw} (k : Lt x (nth [] l i)) : Lt x (nth [] l j) := by
  by_cases e : i = j
  · rw [← e]; exact k
  · exact k.trans (h i j h1 (by omega) h3)
/-- What the search and the rotation come to: four sorted parts, the first two ahead of the last two. -/
theorem sym_core {l l1 : List Rw} {a m b st mid lo hi : Nat} (ham : a < m) (hmb : m < b) (hmid : mid = (a + b) / 2) (h1 : Srt l a m) (h2 : Srt l m b) (hat : ∀ s t, a ≤ s → s < m → m ≤ t → t < b → nth 0 (nth [] l s) 0 < nth 0 (nth [] l t) 0)
    (hlo : (mid < m ∧ lo = mid + m - b ∧ hi = mid) ∨ (m ≤ mid ∧ lo = a ∧ hi = m)) (r1 : lo ≤ st) (r2 : st ≤ hi) (p1 : ∀ t, lo ≤ t → t < st → ¬ nth 0 (nth [] l t) 1 < nth 0 (nth [] l (mid + m - 1 - t)) 1) (p2 : ∀ t, st ≤ t → t < hi → nth 0 (nth [] l t) 1 < nth 0 (nth [] l (mid + m - 1 - t)) 1)
    (hr : ∀ q, nth [] l1 q = if st ≤ q ∧ q < mid then nth [] l (q + (m - st)) else if mid ≤ q ∧ q < mid + m - st then nth [] l (q - (mid - st)) else nth [] l q) :
    Srt l1 a st ∧ Srt l1 st mid ∧ Srt l1 mid (mid + m - st) ∧ Srt l1 (mid + m - st) b ∧
    (∀ s t, a ≤ s → s < st → st ≤ t → t < mid → nth 0 (nth [] l1 s) 0 < nth 0 (nth [] l1 t) 0) ∧ (∀ s t, mid ≤ s → s < mid + m - st → mid + m - st ≤ t → t < b → nth 0 (nth [] l1 s) 0 < nth 0 (nth [] l1 t) 0) ∧
    (∀ s t, a ≤ s → s < mid → mid ≤ t → t < b → Lt (nth [] l1 s) (nth [] l1 t)) := by
  have g1 : a ≤ st := by omega
  have g2 : st ≤ m := by omega
  have g3 : st ≤ mid := by omega
  have g4 : mid + m - st ≤ b := by omega
  have n1 : ∀ q, q < st → nth [] l1 q = nth [] l q := fun q h => by rw [hr, if_neg (by omega), if_neg (by omega)]
  have n2 : ∀ q, st ≤ q → q < mid → nth [] l1 q = nth [] l (q + (m - st)) := fun q h k => by rw [hr, if_pos ⟨h, k⟩]
  have n3 : ∀ q, mid ≤ q → q < mid + m - st → nth [] l1 q = nth [] l (q - (mid - st)) := fun q h k => by rw [hr, if_neg (by omega), if_pos ⟨h, k⟩]
  have n4 : ∀ q, mid + m - st ≤ q → nth [] l1 q = nth [] l q := fun q h => by rw [hr, if_neg (by omega), if_neg (by omega)]
  have A : ∀ s t, a ≤ s → s < st → mid + m - st ≤ t → t < b → Lt (nth [] l s) (nth [] l t) := fun s t s1 s2 t1 t2 => by
    have q := p1 (st - 1) (by omega) (by omega)
    rw [show mid + m - 1 - (st - 1) = mid + m - st by omega] at q
    have k := (lt_lr (hat (st - 1) (mid + m - st) (by omega) (by omega) (by omega) (by omega))).2 q
    exact h2.ge (i := mid + m - st) (by omega) t1 t2 (h1.le s1 (by omega) (by omega) k)
  have B : ∀ s t, m ≤ s → s < mid + m - st → st ≤ t → t < m → Lt (nth [] l s) (nth [] l t) := fun s t s1 s2 t1 t2 => by
    have q := p2 st (Nat.le_refl _) (by omega)
    rw [show mid + m - 1 - st = mid + m - st - 1 by omega] at q
    have k := (lt_rl (hat st (mid + m - st - 1) (by omega) (by omega) (by omega) (by omega))).2 q
    exact h1.ge (i := st) (by omega) t1 t2 (h2.le s1 (show s ≤ mid + m - st - 1 by omega) (by omega) k)
  refine ⟨fun i j i1 i2 i3 => ?_, fun i j i1 i2 i3 => ?_, fun i j i1 i2 i3 => ?_, fun i j i1 i2 i3 => ?_, fun s t s1 s2 s3 s4 => ?_, fun s t s1 s2 s3 s4 => ?_, fun s t s1 s2 s3 s4 => ?_⟩
  · rw [n1 i (by omega), n1 j i3]; exact h1 i j i1 i2 (by omega)
  · rw [n2 i i1 (by omega), n2 j (by omega) i3]; exact h2 _ _ (by omega) (by omega) (by omega)
  · rw [n3 i i1 (by omega), n3 j (by omega) i3]; exact h1 _ _ (by omega) (by omega) (by omega)
  · rw [n4 i i1, n4 j (by omega)]; exact h2 _ _ (by omega) i2 i3
  · rw [n1 s s2, n2 t s3 s4]; exact hat _ _ s1 (by omega) (by omega) (by omega)
  · rw [n3 s s1 s2, n4 t s3]; exact hat _ _ (by omega) (by omega) (by omega) s4
  · by_cases c : s < st
    · rw [n1 s c]
      by_cases d : t < mid + m - st
      · rw [n3 t s3 d]; exact h1 _ _ s1 (by omega) (by omega)
      · rw [n4 t (by omega)]; exact A s t s1 c (by omega) s4
    · rw [n2 s (by omega) s2]
      by_cases d : t < mid + m - st
      · rw [n3 t s3 d]; exact B _ _ (by omega) (by omega) (by omega) (by omega)
      · rw [n4 t (by omega)]; exact h2 _ _ (by omega) (by omega) s4
/-- A rotation within a part. -/
theorem Rot.mv {l l' : List Rw} {p i j a b : Nat} (h : Rot l l' p i j) (ha : a ≤ p) (hb : p + i + j ≤ b) : Mv l l' a b :=
  ⟨h.len, fun q hq => by rw [h.at_, if_neg (by omega), if_neg (by omega)], h.perm, fun q h1 h2 => by
    rw [h.at_]
    by_cases c : p ≤ q ∧ q < p + j
    · rw [if_pos c]; exact ⟨q + i, by omega, by omega, rfl⟩
    · rw [if_neg c]
      by_cases d : p + j ≤ q ∧ q < p + i + j
      · rw [if_pos d]; exact ⟨q - j, by omega, by omega, rfl⟩
      · rw [if_neg d]; exact ⟨q, h1, h2, rfl⟩⟩
/-- A left run of one row. -/
theorem merge_one {K a b : Nat} {l : List Rw} (hw : W3 l) (hl : l.length ≤ 1000000) (hK : l.length < K) (hab : a + 1 < b) (hb : b ≤ l.length) (h2 : Srt l (a + 1) b) (hat : ∀ t, a + 1 ≤ t → t < b → nth 0 (nth [] l a) 0 < nth 0 (nth [] l t) 0) :
    ∃ (r : Nat) (l' : List Rw), F.slices_symMergeCmpFunc_money_share__l3 K K a ((a + 1 : Nat) : Int) b l = some ((a : Int), (r : Int), l) ∧ F.slices_symMergeCmpFunc_money_share__l9 K K r a l = some l' ∧ Mv l l' a b ∧ Srt l' a b := by
  obtain ⟨r, e1, q1, q2, q3, q4⟩ := search_up (K := K) hw hl (show a < l.length by omega) hb (lo := a + 1) (hi := b) (fun s t s1 s2 s3 h => by
    have := h2 s t s1 s2 s3
    unfold Lt at this; omega) K (a + 1) b (by omega) (by omega) (by omega) (by omega) (fun t t1 t2 => by omega) (fun t t1 t2 => by omega)
  obtain ⟨l', e2, R⟩ := shift_up (K := K) (i := r) K a l hw hl (by omega) (by omega) (by omega) (by omega)
  refine ⟨r, l', e1, e2, R.mv (by omega) (by omega), fun s t s1 s2 s3 => ?_⟩
  have n1 : ∀ q, a ≤ q → q < r - 1 → nth [] l' q = nth [] l (q + 1) := fun q u v => by rw [R.at_, if_pos (by omega)]
  have n2 : nth [] l' (r - 1) = nth [] l a := by rw [R.at_, if_neg (by omega), if_pos (by omega)]; congr 1; omega
  have n3 : ∀ q, r ≤ q → nth [] l' q = nth [] l q := fun q u => by rw [R.at_, if_neg (by omega), if_neg (by omega)]
  by_cases c1 : s < r - 1
  · rw [n1 s s1 c1]
    by_cases d1 : t < r - 1
    · rw [n1 t (by omega) d1]; exact h2 _ _ (by omega) (by omega) (by omega)
    · by_cases d2 : t = r - 1
      · rw [d2, n2]; exact (lt_rl (hat (s + 1) (by omega) (by omega))).2 (q3 (s + 1) (by omega) (by omega))
      · rw [n3 t (by omega)]; exact h2 _ _ (by omega) (by omega) s3
  · by_cases c2 : s = r - 1
    · rw [c2, n2, n3 t (by omega)]; exact (lt_lr (hat t (by omega) s3)).2 (q4 t (by omega) s3)
    · rw [n3 s (by omega), n3 t (by omega)]; exact h2 _ _ (by omega) s2 s3
/-- A right run of one row. -/
theorem merge_last {K a m : Nat} {l : List Rw} (hw : W3 l) (hl : l.length ≤ 1000000) (hK : l.length < K) (ham : a < m) (hb : m < l.length) (h1 : Srt l a m) (hat : ∀ s, a ≤ s → s < m → nth 0 (nth [] l s) 0 < nth 0 (nth [] l m) 0) :
    ∃ (r : Nat) (l' : List Rw), F.slices_symMergeCmpFunc_money_share__l15 K K m a m l = some ((m : Int), (r : Int), l) ∧ F.slices_symMergeCmpFunc_money_share__l21 K K r m l = some l' ∧ Mv l l' a (m + 1) ∧ Srt l' a (m + 1) := by
  obtain ⟨r, e1, q1, q2, q3, q4⟩ := search_down (K := K) hw hl hb (show m ≤ l.length by omega) (lo := a) (hi := m) (fun s t s1 s2 s3 h => by
    have := h1 s t s1 s2 s3
    unfold Lt at this; omega) K a m (by omega) (by omega) (by omega) (by omega) (fun t t1 t2 => by omega) (fun t t1 t2 => by omega)
  obtain ⟨l', e2, R⟩ := shift_down (K := K) (i := r) K m l hw hl hb (by omega) (by omega)
  refine ⟨r, l', e1, e2, R.mv (by omega) (by omega), fun s t s1 s2 s3 => ?_⟩
  have n1 : ∀ q, q < r → nth [] l' q = nth [] l q := fun q u => by rw [R.at_, if_neg (by omega), if_neg (by omega)]
  have n2 : nth [] l' r = nth [] l m := by rw [R.at_, if_pos (by omega)]; congr 1; omega
  have n3 : ∀ q, r < q → q < m + 1 → nth [] l' q = nth [] l (q - 1) := fun q u v => by rw [R.at_, if_neg (by omega), if_pos (by omega)]
  by_cases c1 : s < r
  · rw [n1 s c1]
    by_cases d1 : t < r
    · rw [n1 t d1]; exact h1 _ _ s1 s2 (by omega)
    · by_cases d2 : t = r
      · rw [d2, n2]; exact (lt_lr (hat s s1 (by omega))).2 (q3 s s1 c1)
      · rw [n3 t (by omega) s3]; exact h1 _ _ s1 (by omega) (by omega)
  · by_cases c2 : s = r
    · rw [c2, n2, n3 t (by omega) s3]; exact (lt_rl (hat (t - 1) (by omega) (by omega))).2 (q4 (t - 1) (by omega) (by omega))
    · rw [n3 s (by omega) (by omega), n3 t (by omega) s3]; exact h1 _ _ (by omega) (by omega) (by omega)
end Go.Proofs.Ytfeifhlnidkbbaa.Wide
