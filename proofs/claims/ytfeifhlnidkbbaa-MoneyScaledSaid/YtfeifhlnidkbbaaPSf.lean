/- The merge of shares, whole. Conditions: rows of three numbers. -/
import Derived.Test.YtfeifhlnidkbbaaPSe
set_option linter.unusedVariables false
set_option linter.unusedSimpArgs false
namespace Go.Proofs.Ytfeifhlnidkbbaa.Wide
open Go Go.RowKit Go.Proofs.Ytfeifhlnidkbbaa.Vm
/-- What the merge does behind the rotation. -/
def part2 (K k : Nat) (l0 l1 : List Rw) (a st mid en b : Int) : Option (List Rw) :=
  if decide (a < st) = true then
    (if decide (st < mid) = true then
      (F.slices_symMergeCmpFunc_money_share__r K k l1 a st mid).bind fun r6 => if decide (mid < en) = true then (if decide (en < b) = true then (F.slices_symMergeCmpFunc_money_share__r K k r6 mid en b).bind fun r7 => (if decide (List.length r7 = l0.length) = true then some r7 else none) else (if decide (List.length r6 = l0.length) = true then some r6 else none)) else (if decide (List.length r6 = l0.length) = true then some r6 else none)
    else (if decide (mid < en) = true then (if decide (en < b) = true then (F.slices_symMergeCmpFunc_money_share__r K k l1 mid en b).bind fun r7 => (if decide (List.length r7 = l0.length) = true then some r7 else none) else (if decide (List.length l1 = l0.length) = true then some l1 else none)) else (if decide (List.length l1 = l0.length) = true then some l1 else none)))
  else (if decide (mid < en) = true then (if decide (en < b) = true then (F.slices_symMergeCmpFunc_money_share__r K k l1 mid en b).bind fun r7 => (if decide (List.length r7 = l0.length) = true then some r7 else none) else (if decide (List.length l1 = l0.length) = true then some l1 else none)) else (if decide (List.length l1 = l0.length) = true then some l1 else none))
def SymOk (K k : Nat) : Prop := ∀ (a m b : Nat) (l : List Rw), W3 l → l.length ≤ 1000000 → l.length < K → a < m → m < b → b ≤ l.length → b - a < k → Srt l a m → Srt l m b →
    (∀ s t, a ≤ s → s < m → m ≤ t → t < b → nth 0 (nth [] l s) 0 < nth 0 (nth [] l t) 0) → ∃ l', F.slices_symMergeCmpFunc_money_share__r K k l a m b = some l' ∧ Mv l l' a b ∧ Srt l' a b
theorem part2_ok {K k : Nat} (IH : SymOk K k) {l0 l1 : List Rw} (hw : W3 l1) (hl : l1.length ≤ 1000000) (hK : l1.length < K) (h0 : l1.length = l0.length) {a st mid en b : Nat} (g1 : a ≤ st) (g2 : st ≤ mid) (g3 : mid ≤ en) (g4 : en ≤ b) (hb : b ≤ l1.length) (k1 : mid - a < k) (k2 : b - mid < k)
    (s1 : Srt l1 a st) (s2 : Srt l1 st mid) (s3 : Srt l1 mid en) (s4 : Srt l1 en b) (t1 : ∀ s t, a ≤ s → s < st → st ≤ t → t < mid → nth 0 (nth [] l1 s) 0 < nth 0 (nth [] l1 t) 0) (t2 : ∀ s t, mid ≤ s → s < en → en ≤ t → t < b → nth 0 (nth [] l1 s) 0 < nth 0 (nth [] l1 t) 0)
    (cr : ∀ s t, a ≤ s → s < mid → mid ≤ t → t < b → Lt (nth [] l1 s) (nth [] l1 t)) : ∃ l', part2 K k l0 l1 a st mid en b = some l' ∧ Mv l1 l' a b ∧ Srt l' a b := by
  -- the second half
  have right : ∀ l2, Mv l1 l2 a mid → Srt l2 a mid → ∃ l', (if decide ((mid : Int) < en) = true then (if decide ((en : Int) < b) = true then (F.slices_symMergeCmpFunc_money_share__r K k l2 mid en b).bind fun r7 => (if decide (List.length r7 = l0.length) = true then some r7 else none) else (if decide (List.length l2 = l0.length) = true then some l2 else none)) else (if decide (List.length l2 = l0.length) = true then some l2 else none)) = some l' ∧ Mv l1 l' a b ∧ Srt l' a b := by
    intro l2 mv2 sr2
    have o : ∀ q, mid ≤ q → nth [] l2 q = nth [] l1 q := fun q h => mv2.out q (.inr h)
    have hlen : decide (List.length l2 = l0.length) = true := by simp; exact mv2.len.trans h0
    have fin : ∀ l3, Mv l2 l3 mid b → Srt l3 mid b → Mv l1 l3 a b ∧ Srt l3 a b := fun l3 mv3 sr3 =>
      ⟨(mv2.widen (Nat.le_refl _) (by omega)).trans (mv3.widen (by omega) (Nat.le_refl _)), (sr2.of_out fun i i1 i2 => mv3.out i (.inl i2)).join sr3 fun i j i1 i2 j1 j2 => by
        obtain ⟨p, p1, p2, p3⟩ := mv2.src i i1 i2
        obtain ⟨q, q1, q2, q3⟩ := mv3.src j j1 j2
        rw [mv3.out i (.inl i2), p3, q3, o q q1]
        exact cr p q p1 p2 q1 q2⟩
    by_cases c1 : mid < en
    · rw [if_pos (by simpa using c1)]
      by_cases c2 : en < b
      · obtain ⟨l3, e3, mv3, sr3⟩ := IH mid en b l2 (hw.mv mv2) (by rw [mv2.len]; exact hl) (by rw [mv2.len]; exact hK) c1 c2 (by rw [mv2.len]; exact hb) k2 (s3.of_out fun i i1 _ => o i i1) (s4.of_out fun i i1 _ => o i (by omega)) fun s t u1 u2 u3 u4 => by
          rw [o s u1, o t (by omega)]; exact t2 s t u1 u2 u3 u4
        have hl3 : decide (List.length l3 = l0.length) = true := by simp; exact mv3.len.trans (mv2.len.trans h0)
        rw [if_pos (by simpa using c2), e3, Option.bind_some, if_pos hl3]
        exact ⟨l3, rfl, fin l3 mv3 sr3⟩
      · rw [if_neg (by simpa using c2), if_pos hlen]
        exact ⟨l2, rfl, fin l2 (Mv.refl _ _ _) fun i j i1 i2 i3 => (s3.of_out (l' := l2) fun i i1 _ => o i i1) i j i1 i2 (by omega)⟩
    · rw [if_neg (by simpa using c1), if_pos hlen]
      exact ⟨l2, rfl, fin l2 (Mv.refl _ _ _) fun i j i1 i2 i3 => (s4.of_out (l' := l2) fun i i1 _ => o i (by omega)) i j (by omega) i2 i3⟩
  unfold part2
  by_cases c1 : a < st
  · rw [if_pos (by simpa using c1)]
    by_cases c2 : st < mid
    · obtain ⟨l2, e2, mv2, sr2⟩ := IH a st mid l1 hw hl hK c1 c2 (by omega) k1 s1 s2 t1
      rw [if_pos (by simpa using c2), e2, Option.bind_some]
      exact right l2 mv2 sr2
    · rw [if_neg (by simpa using c2)]
      exact right l1 (Mv.refl _ _ _) fun i j i1 i2 i3 => s1 i j i1 i2 (by omega)
  · rw [if_neg (by simpa using c1)]
    exact right l1 (Mv.refl _ _ _) fun i j i1 i2 i3 => s2 i j (by omega) i2 i3
theorem sym_ok {K : Nat} : ∀ k, SymOk K k
  | 0 => fun a m b l _ _ _ ham hmb _ hk => by omega
  | k + 1 => fun a m b l hw hl hK ham hmb hb hk h1 h2 hat => by
    have ih := sym_ok (K := K) k
    obtain ⟨mid, hmid⟩ : ∃ mid, mid = (a + b) / 2 := ⟨_, rfl⟩
    have e0 : IntKind.i64.wrap ((m : Int) - a) = ((m - a : Nat) : Int) := by rw [iw (by omega) (by omega)]; omega
    have e00 : IntKind.i64.wrap ((b : Int) - m) = ((b - m : Nat) : Int) := by rw [iw (by omega) (by omega)]; omega
    have eh := half_ok (a := a) (b := b) (by omega)
    rw [← hmid] at eh
    rw [F.slices_symMergeCmpFunc_money_share__r]
    simp only [bi_eq]
    rw [e0, e00, eh]
    by_cases c1 : m = a + 1
    · subst c1
      rw [if_pos (by simp)]
      obtain ⟨r, l', q1, q2, q3, q4⟩ := merge_one (K := K) hw hl hK hmb hb h2 fun t t1 t2 => hat a t (Nat.le_refl _) (by omega) t1 t2
      rw [q1, Option.bind_some]
      simp only
      rw [q2, Option.bind_some, if_pos (by simpa using q3.len)]
      exact ⟨l', rfl, q3, q4⟩
    rw [if_neg (by simp; omega)]
    by_cases c2 : b = m + 1
    · subst c2
      rw [if_pos (by simp)]
      obtain ⟨r, l', q1, q2, q3, q4⟩ := merge_last (K := K) hw hl hK ham (by omega) h1 fun s s1 s2 => hat s m s1 s2 (Nat.le_refl _) (by omega)
      rw [q1, Option.bind_some]
      simp only
      rw [q2, Option.bind_some, if_pos (by simpa using q3.len)]
      exact ⟨l', rfl, q3, q4⟩
    rw [if_neg (by simp; omega)]
    have en1 : IntKind.i64.wrap ((mid : Int) + m) = ((mid + m : Nat) : Int) := by rw [iw (by omega) (by omega)]; omega
    have ep : IntKind.i64.wrap (((mid + m : Nat) : Int) - 1) = ((mid + m - 1 : Nat) : Int) := by rw [iw (by omega) (by omega)]; omega
    rw [en1, ep]
    by_cases c3 : mid < m
    · have enb : IntKind.i64.wrap (((mid + m : Nat) : Int) - b) = ((mid + m - b : Nat) : Int) := by rw [iw (by omega) (by omega)]; omega
      rw [enb]
      obtain ⟨st, e1, r1, r2, p1, p2⟩ := search_sym (K := K) (p := mid + m - 1) (x1 := (a : Int)) (x2 := (m : Int)) (x3 := (b : Int)) (x18 := (mid : Int)) (x19 := ((mid + m : Nat) : Int)) hw hl (by omega) (lo := mid + m - b) (hi := mid) (by omega) (fun t t1 t2 => by omega) (fun s t u1 u2 u3 h => by
        have v1 := h1 s t (by omega) u2 (by omega)
        have v2 := h2 (mid + m - 1 - t) (mid + m - 1 - s) (by omega) (by omega) (by omega)
        unfold Lt at v1 v2; omega) K (mid + m - b) (mid) (Nat.le_refl _) (by omega) (Nat.le_refl _) (by omega) (fun t t1 t2 => by omega) (fun t t1 t2 => by omega)
      have core := fun (l1 : List Rw) (hr : ∀ q, nth [] l1 q = if st ≤ q ∧ q < mid then nth [] l (q + (m - st)) else if mid ≤ q ∧ q < mid + m - st then nth [] l (q - (mid - st)) else nth [] l q) => sym_core (l1 := l1) ham hmb hmid h1 h2 hat (.inl ⟨c3, rfl, rfl⟩) r1 r2 p1 p2 hr
      have same : (¬ st < m ∨ ¬ m < mid + m - st) → ∀ q, nth [] l q = if st ≤ q ∧ q < mid then nth [] l (q + (m - st)) else if mid ≤ q ∧ q < mid + m - st then nth [] l (q - (mid - st)) else nth [] l q := fun hs q => by
        by_cases z1 : st ≤ q ∧ q < mid
        · rw [if_pos z1]; congr 1; omega
        · rw [if_neg z1]
          by_cases z2 : mid ≤ q ∧ q < mid + m - st
          · rw [if_pos z2]; congr 1; omega
          · rw [if_neg z2]
      have een : IntKind.i64.wrap (((mid + m : Nat) : Int) - st) = ((mid + m - st : Nat) : Int) := by rw [iw (by omega) (by omega)]; omega
      rw [if_pos (by simpa using c3), e1, Option.bind_some]
      simp only
      by_cases d1 : st < m
      · rw [if_pos (by simpa using d1)]
        by_cases d2 : m < mid + m - st
        · rw [if_pos (by rw [een]; simpa using d2), een]
          obtain ⟨l1, e2, R⟩ := rotate_ok (K := K) hw hl hK d1 d2 (show mid + m - st ≤ l.length by omega)
          obtain ⟨y1, y2, y3, y4, y5, y6, y7⟩ := core l1 fun q => by
            rw [R.at_]
            by_cases z1 : st ≤ q ∧ q < mid
            · rw [if_pos z1, if_pos (by omega)]
            · rw [if_neg z1, if_neg (by omega)]
              by_cases z2 : mid ≤ q ∧ q < mid + m - st
              · rw [if_pos z2, if_pos (by omega)]; congr 1; omega
              · rw [if_neg z2, if_neg (by omega)]
          have mv1 : Mv l l1 a b := R.mv (by omega) (by omega)
          obtain ⟨l', e3, mv3, sr3⟩ := part2_ok (K := K) (k := k) (l0 := l) ih (hw.mv mv1) (by rw [mv1.len]; exact hl) (by rw [mv1.len]; exact hK) mv1.len (a := a) (st := st) (mid := mid) (en := mid + m - st) (b := b) (by omega) (by omega) (by omega) (by omega) (by rw [mv1.len]; exact hb) (by omega) (by omega) y1 y2 y3 y4 y5 y6 y7
          rw [e2, Option.bind_some]
          exact ⟨l', e3, mv1.trans mv3, sr3⟩
        · rw [if_neg (by rw [een]; simpa using d2), een]
          obtain ⟨y1, y2, y3, y4, y5, y6, y7⟩ := core l (same (.inr d2))
          obtain ⟨l', e3, mv3, sr3⟩ := part2_ok (K := K) (k := k) (l0 := l) ih hw hl hK rfl (a := a) (st := st) (mid := mid) (en := mid + m - st) (b := b) (by omega) (by omega) (by omega) (by omega) hb (by omega) (by omega) y1 y2 y3 y4 y5 y6 y7
          exact ⟨l', by unfold part2 at e3; simpa using e3, mv3, sr3⟩
      · rw [if_neg (by simpa using d1), een]
        obtain ⟨y1, y2, y3, y4, y5, y6, y7⟩ := core l (same (.inl d1))
        obtain ⟨l', e3, mv3, sr3⟩ := part2_ok (K := K) (k := k) (l0 := l) ih hw hl hK rfl (a := a) (st := st) (mid := mid) (en := mid + m - st) (b := b) (by omega) (by omega) (by omega) (by omega) hb (by omega) (by omega) y1 y2 y3 y4 y5 y6 y7
        exact ⟨l', by unfold part2 at e3; simpa using e3, mv3, sr3⟩
    · skip
      obtain ⟨st, e1, r1, r2, p1, p2⟩ := search_sym (K := K) (p := mid + m - 1) (x1 := (a : Int)) (x2 := (m : Int)) (x3 := (b : Int)) (x18 := (mid : Int)) (x19 := ((mid + m : Nat) : Int)) hw hl (by omega) (lo := a) (hi := m) (by omega) (fun t t1 t2 => by omega) (fun s t u1 u2 u3 h => by
        have v1 := h1 s t (by omega) u2 (by omega)
        have v2 := h2 (mid + m - 1 - t) (mid + m - 1 - s) (by omega) (by omega) (by omega)
        unfold Lt at v1 v2; omega) K (a) (m) (Nat.le_refl _) (by omega) (Nat.le_refl _) (by omega) (fun t t1 t2 => by omega) (fun t t1 t2 => by omega)
      have core := fun (l1 : List Rw) (hr : ∀ q, nth [] l1 q = if st ≤ q ∧ q < mid then nth [] l (q + (m - st)) else if mid ≤ q ∧ q < mid + m - st then nth [] l (q - (mid - st)) else nth [] l q) => sym_core (l1 := l1) ham hmb hmid h1 h2 hat (.inr ⟨by omega, rfl, rfl⟩) r1 r2 p1 p2 hr
      have same : (¬ st < m ∨ ¬ m < mid + m - st) → ∀ q, nth [] l q = if st ≤ q ∧ q < mid then nth [] l (q + (m - st)) else if mid ≤ q ∧ q < mid + m - st then nth [] l (q - (mid - st)) else nth [] l q := fun hs q => by
        by_cases z1 : st ≤ q ∧ q < mid
        · rw [if_pos z1]; congr 1; omega
        · rw [if_neg z1]
          by_cases z2 : mid ≤ q ∧ q < mid + m - st
          · rw [if_pos z2]; congr 1; omega
          · rw [if_neg z2]
      have een : IntKind.i64.wrap (((mid + m : Nat) : Int) - st) = ((mid + m - st : Nat) : Int) := by rw [iw (by omega) (by omega)]; omega
      rw [if_neg (by simpa using c3), e1, Option.bind_some]
      simp only
      by_cases d1 : st < m
      · rw [if_pos (by simpa using d1)]
        by_cases d2 : m < mid + m - st
        · rw [if_pos (by rw [een]; simpa using d2), een]
          obtain ⟨l1, e2, R⟩ := rotate_ok (K := K) hw hl hK d1 d2 (show mid + m - st ≤ l.length by omega)
          obtain ⟨y1, y2, y3, y4, y5, y6, y7⟩ := core l1 fun q => by
            rw [R.at_]
            by_cases z1 : st ≤ q ∧ q < mid
            · rw [if_pos z1, if_pos (by omega)]
            · rw [if_neg z1, if_neg (by omega)]
              by_cases z2 : mid ≤ q ∧ q < mid + m - st
              · rw [if_pos z2, if_pos (by omega)]; congr 1; omega
              · rw [if_neg z2, if_neg (by omega)]
          have mv1 : Mv l l1 a b := R.mv (by omega) (by omega)
          obtain ⟨l', e3, mv3, sr3⟩ := part2_ok (K := K) (k := k) (l0 := l) ih (hw.mv mv1) (by rw [mv1.len]; exact hl) (by rw [mv1.len]; exact hK) mv1.len (a := a) (st := st) (mid := mid) (en := mid + m - st) (b := b) (by omega) (by omega) (by omega) (by omega) (by rw [mv1.len]; exact hb) (by omega) (by omega) y1 y2 y3 y4 y5 y6 y7
          rw [e2, Option.bind_some]
          exact ⟨l', e3, mv1.trans mv3, sr3⟩
        · rw [if_neg (by rw [een]; simpa using d2), een]
          obtain ⟨y1, y2, y3, y4, y5, y6, y7⟩ := core l (same (.inr d2))
          obtain ⟨l', e3, mv3, sr3⟩ := part2_ok (K := K) (k := k) (l0 := l) ih hw hl hK rfl (a := a) (st := st) (mid := mid) (en := mid + m - st) (b := b) (by omega) (by omega) (by omega) (by omega) hb (by omega) (by omega) y1 y2 y3 y4 y5 y6 y7
          exact ⟨l', by unfold part2 at e3; simpa using e3, mv3, sr3⟩
      · rw [if_neg (by simpa using d1), een]
        obtain ⟨y1, y2, y3, y4, y5, y6, y7⟩ := core l (same (.inl d1))
        obtain ⟨l', e3, mv3, sr3⟩ := part2_ok (K := K) (k := k) (l0 := l) ih hw hl hK rfl (a := a) (st := st) (mid := mid) (en := mid + m - st) (b := b) (by omega) (by omega) (by omega) (by omega) hb (by omega) (by omega) y1 y2 y3 y4 y5 y6 y7
        exact ⟨l', by unfold part2 at e3; simpa using e3, mv3, sr3⟩
end Go.Proofs.Ytfeifhlnidkbbaa.Wide
