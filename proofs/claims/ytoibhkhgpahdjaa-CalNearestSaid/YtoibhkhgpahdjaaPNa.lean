/- Business days: what slices.Contains, cal.open and cal.seek answer. Conditions: the holidays are at most 2^43. -/
import Derived.Test.YtoibhkhgpahdjaaPCa
set_option linter.unusedVariables false
set_option linter.unusedSimpArgs false
namespace Go.Proofs.Ytoibhkhgpahdjaa.Wide
open Go Go.RowKit Go.Proofs.Ytoibhkhgpahdjaa.Vm Go.Proofs.Ytoibhkhgpahdjaa.CalM
/-- Does the number stand in the list? -/
def has (l : List Int) (x : Int) : Prop := ∃ j, j < l.length ∧ nth 0 l j = x
theorem index_loop {K : Nat} {l : List Int} {x : Int} (hl : l.length ≤ 8796093022208) : ∀ (k i : Nat), i ≤ l.length → l.length - i < k →
    (∃ j, i ≤ j ∧ j < l.length ∧ nth 0 l j = x ∧ F.slices_IndexInts_l2 K k l x (l.length : Int) (i : Int) = some (.inr (j : Int))) ∨ ((∀ j, i ≤ j → j < l.length → nth 0 l j ≠ x) ∧ F.slices_IndexInts_l2 K k l x (l.length : Int) (i : Int) = some (.inl ()))
  | 0, i, _, hk => by omega
  | k + 1, i, hi, hk => by
    rw [F.slices_IndexInts_l2]
    simp only [bi_eq]
    by_cases c : i < l.length
    · have w1 : IntKind.i64.wrap ((i : Int) + 1) = ((i + 1 : Nat) : Int) := by rw [iw (by omega) (by omega)]; omega
      rw [if_pos (by simp; omega), if_pos (by simp; omega), Int.toNat_natCast, w1]
      by_cases e : x = nth 0 l i
      · left; exact ⟨i, Nat.le_refl _, c, e.symm, by rw [if_pos (by simpa using e)]⟩
      · rw [if_neg (by simpa using e)]
        rcases index_loop (K := K) (x := x) hl k (i + 1) (by omega) (by omega) with ⟨j, h1, h2, h3, h4⟩ | ⟨h1, h2⟩
        · left; exact ⟨j, by omega, h2, h3, h4⟩
        · right
          refine ⟨fun j g1 g2 => ?_, h2⟩
          by_cases ej : j = i
          · subst ej; exact fun h => e h.symm
          · exact h1 j (by omega) g2
    · right
      rw [if_neg (by simp; omega)]
      exact ⟨fun j g1 g2 => by omega, rfl⟩
theorem contains_ok {K : Nat} {l : List Int} {x : Int} (hl : l.length ≤ 8796093022208) (hK : l.length < K) : ∃ r : Bool, F.slices_ContainsInts K l x = some r ∧ (r = true ↔ has l x) := by
  unfold F.slices_ContainsInts F.slices_IndexInts
  rcases index_loop (K := K) (x := x) hl K 0 (by omega) (by omega) with ⟨j, _, h2, h3, h4⟩ | ⟨h1, h2⟩
  · have h4' : F.slices_IndexInts_l2 K K l x (l.length : Int) 0 = some (.inr (j : Int)) := h4
    refine ⟨true, ?_, by simp; exact ⟨j, h2, h3⟩⟩
    rw [h4']; simp [casO]
  · have h2' : F.slices_IndexInts_l2 K K l x (l.length : Int) 0 = some (.inl ()) := h2
    refine ⟨false, ?_, by simp; rintro ⟨j, g1, g2⟩; exact h1 j (by omega) g1 g2⟩
    rw [h2']; simp [casO]
/-- Is business done on the day? -/
def Op (l : List Int) (n : Int) : Prop := (n - 1) % 7 < 5 ∧ ¬ has l n
theorem open_ok {K : Nat} {l : List Int} {n : Int} (hl : l.length ≤ 8796093022208) (hK : l.length < K) (n1 : 1 ≤ n) (n2 : n ≤ 3652059) : ∃ r : Bool, F.cal_open K n l = some r ∧ (r = true ↔ Op l n) := by
  obtain ⟨c, e, hc⟩ := contains_ok (x := n) hl hK
  unfold F.cal_open Op
  rw [iw (x := n - 1) (by omega) (by omega), tm _ (by omega), bi_eq]
  by_cases g : (n - 1) % 7 < 5
  · rw [if_pos (by simpa using g), e, Option.bind_some]
    refine ⟨!c, rfl, ?_⟩
    cases c
    · simp [g]; exact fun h => by simpa using hc.2 h
    · simp [g]; exact hc.1 rfl
  · rw [if_neg (by simpa using g)]
    exact ⟨false, rfl, by simp [g]⟩
theorem seek_up {K : Nat} {l : List Int} (hl : l.length ≤ 8796093022208) (hK : l.length < K) : ∀ (k : Nat) (n : Int), 1 ≤ n → n ≤ 3652060 → (3652060 - n).toNat < k →
    (∃ m, n ≤ m ∧ m ≤ 3652059 ∧ Op l m ∧ (∀ d, n ≤ d → d < m → ¬ Op l d) ∧ F.cal_seek_l1 K k n 1 l = some (.inr (m, true))) ∨ ((∀ d, n ≤ d → d ≤ 3652059 → ¬ Op l d) ∧ F.cal_seek_l1 K k n 1 l = some (.inl ()))
  | 0, n, _, _, h => by omega
  | k + 1, n, n1, n2, h => by
    rw [F.cal_seek_l1, cis_ok, Option.bind_some]
    simp only [bi_eq]
    by_cases c : n ≤ 3652059
    · obtain ⟨r, e, hr⟩ := open_ok (n := n) hl hK n1 c
      rw [if_pos (by simp; omega), e, Option.bind_some]
      cases r with
      | true => left; exact ⟨n, by omega, c, hr.1 rfl, fun d h1 h2 => by omega, rfl⟩
      | false =>
        have no : ¬ Op l n := fun g => by simpa using hr.2 g
        rw [if_neg (by simp), iw (x := n + 1) (by omega) (by omega)]
        rcases seek_up hl hK k (n + 1) (by omega) (by omega) (by omega) with ⟨m, a1, a2, a3, a4, a5⟩ | ⟨a1, a2⟩
        · left
          refine ⟨m, by omega, a2, a3, fun d h1 h2 => ?_, a5⟩
          by_cases ed : d = n
          · rw [ed]; exact no
          · exact a4 d (by omega) h2
        · right
          refine ⟨fun d h1 h2 => ?_, a2⟩
          by_cases ed : d = n
          · rw [ed]; exact no
          · exact a1 d (by omega) h2
    · right
      rw [if_neg (by simp; omega)]
      exact ⟨fun d h1 h2 => by omega, rfl⟩
theorem seek_down {K : Nat} {l : List Int} (hl : l.length ≤ 8796093022208) (hK : l.length < K) : ∀ (k : Nat) (n : Int), 0 ≤ n → n ≤ 3652059 → n.toNat < k →
    (∃ m, 1 ≤ m ∧ m ≤ n ∧ Op l m ∧ (∀ d, m < d → d ≤ n → ¬ Op l d) ∧ F.cal_seek_l1 K k n (-1) l = some (.inr (m, true))) ∨ ((∀ d, 1 ≤ d → d ≤ n → ¬ Op l d) ∧ F.cal_seek_l1 K k n (-1) l = some (.inl ()))
  | 0, n, _, _, h => by omega
  | k + 1, n, n1, n2, h => by
    rw [F.cal_seek_l1, cis_ok, Option.bind_some]
    simp only [bi_eq]
    by_cases c : 1 ≤ n
    · obtain ⟨r, e, hr⟩ := open_ok (n := n) hl hK c n2
      rw [if_pos (by simp; omega), e, Option.bind_some]
      cases r with
      | true => left; exact ⟨n, c, by omega, hr.1 rfl, fun d h1 h2 => by omega, rfl⟩
      | false =>
        have no : ¬ Op l n := fun g => by simpa using hr.2 g
        rw [if_neg (by simp), iw (x := n + -1) (by omega) (by omega)]
        rcases seek_down hl hK k (n + -1) (by omega) (by omega) (by omega) with ⟨m, a1, a2, a3, a4, a5⟩ | ⟨a1, a2⟩
        · left
          refine ⟨m, a1, by omega, a3, fun d h1 h2 => ?_, a5⟩
          by_cases ed : d = n
          · rw [ed]; exact no
          · exact a4 d h1 (by omega)
        · right
          refine ⟨fun d h1 h2 => ?_, a2⟩
          by_cases ed : d = n
          · rw [ed]; exact no
          · exact a1 d h1 (by omega)
    · right
      rw [if_neg (by simp; omega)]
      exact ⟨fun d h1 h2 => by omega, rfl⟩
theorem ccheck_ok {K : Nat} {l : List Int} {n : Int} (hl : l.length ≤ 400) (n1 : 1 ≤ n) (n2 : n ≤ 3652059) : F.cal_check K n l = some 0 := by
  unfold F.cal_check
  rw [cis_ok, Option.bind_some, bi_eq, if_neg (by simp; omega), bi_eq, if_neg (by simp; omega)]
theorem business_ok {K : Nat} {l : List Int} {n : Int} (hl : l.length ≤ 400) (hK : 400 < K) (n1 : 1 ≤ n) (n2 : n ≤ 3652059) : ∃ r : Bool, F.cal_Business K n l = some (r, 0) ∧ (r = true ↔ Op l n) := by
  obtain ⟨r, e, hr⟩ := open_ok (K := K) (l := l) (n := n) (by omega) (by omega) n1 n2
  refine ⟨r, ?_, hr⟩
  unfold F.cal_Business
  rw [ccheck_ok hl n1 n2, Option.bind_some, bi_eq, if_neg (by decide), e, Option.bind_some]
theorem roll_up {K : Nat} (hK : 4000000 ≤ K) {l : List Int} {n : Int} (hl : l.length ≤ 400) (n1 : 1 ≤ n) (n2 : n ≤ 3652059) :
    (∃ m, n ≤ m ∧ m ≤ 3652059 ∧ Op l m ∧ (∀ d, n ≤ d → d < m → ¬ Op l d) ∧ F.cal_Roll K n l 0 = some (m, 0)) ∨ ((∀ d, n ≤ d → d ≤ 3652059 → ¬ Op l d) ∧ F.cal_Roll K n l 0 = some (0, 4)) := by
  unfold F.cal_Roll F.cal_seek
  rcases seek_up (K := K) (l := l) (by omega) (by omega) K n n1 (by omega) (by omega) with ⟨m, a1, a2, a3, a4, a5⟩ | ⟨a1, a2⟩
  · left
    exact ⟨m, a1, a2, a3, a4, by simp [bi_eq, ccheck_ok hl n1 n2, a5, casO]⟩
  · right
    exact ⟨a1, by simp [bi_eq, ccheck_ok hl n1 n2, a2, casO]⟩
theorem roll_down {K : Nat} (hK : 4000000 ≤ K) {l : List Int} {n : Int} (hl : l.length ≤ 400) (n1 : 1 ≤ n) (n2 : n ≤ 3652059) :
    (∃ m, 1 ≤ m ∧ m ≤ n ∧ Op l m ∧ (∀ d, m < d → d ≤ n → ¬ Op l d) ∧ F.cal_Roll K n l 1 = some (m, 0)) ∨ ((∀ d, 1 ≤ d → d ≤ n → ¬ Op l d) ∧ F.cal_Roll K n l 1 = some (0, 4)) := by
  obtain ⟨u, hu⟩ : ∃ u, F.cal_seek K n 1 l = some u := by
    unfold F.cal_seek
    rcases seek_up (K := K) (l := l) (by omega) (by omega) K n n1 (by omega) (by omega) with ⟨m, _, _, _, _, a5⟩ | ⟨_, a2⟩
    · rw [a5]; exact ⟨_, rfl⟩
    · rw [a2]; exact ⟨_, rfl⟩
  obtain ⟨v, hv⟩ : ∃ v, F.cal_seek K n (-1) l = some v ∧ ((∃ m, 1 ≤ m ∧ m ≤ n ∧ Op l m ∧ (∀ d, m < d → d ≤ n → ¬ Op l d) ∧ v = (m, true)) ∨ ((∀ d, 1 ≤ d → d ≤ n → ¬ Op l d) ∧ v = (0, false))) := by
    unfold F.cal_seek
    rcases seek_down (K := K) (l := l) (by omega) (by omega) K n (by omega) n2 (by omega) with ⟨m, a1, a2, a3, a4, a5⟩ | ⟨a1, a2⟩
    · rw [a5]; exact ⟨_, rfl, .inl ⟨m, a1, a2, a3, a4, rfl⟩⟩
    · rw [a2]; exact ⟨_, rfl, .inr ⟨a1, rfl⟩⟩
  unfold F.cal_Roll
  rcases hv.2 with ⟨m, a1, a2, a3, a4, e⟩ | ⟨a1, e⟩
  · left
    exact ⟨m, a1, a2, a3, a4, by simp [bi_eq, ccheck_ok hl n1 n2, hu, hv.1, e]⟩
  · right
    exact ⟨a1, by simp [bi_eq, ccheck_ok hl n1 n2, hu, hv.1, e]⟩
/-- What the third way answers: forward while the month stays, else back. -/
theorem roll_near {K : Nat} (hK : 4000000 ≤ K) {l : List Int} {n y m d : Int} (hl : l.length ≤ 400) (hc : Civ n y m d) (n1 : 1 ≤ n) (n2 : n ≤ 3652059) :
    (∃ t y' m' d', n ≤ t ∧ t ≤ 3652059 ∧ Op l t ∧ (∀ d, n ≤ d → d < t → ¬ Op l d) ∧ Civ t y' m' d' ∧ m = m' ∧ F.cal_Roll K n l 2 = some (t, 0)) ∨ F.cal_Roll K n l 2 = F.cal_Roll K n l 1 := by
  obtain ⟨v, hv⟩ : ∃ v, F.cal_seek K n (-1) l = some v := by
    unfold F.cal_seek
    rcases seek_down (K := K) (l := l) (by omega) (by omega) K n (by omega) n2 (by omega) with ⟨m, _, _, _, _, a5⟩ | ⟨_, a2⟩
    · rw [a5]; exact ⟨_, rfl⟩
    · rw [a2]; exact ⟨_, rfl⟩
  rcases seek_up (K := K) (l := l) (by omega) (by omega) K n n1 (by omega) (by omega) with ⟨t, a1, a2, a3, a4, a5⟩ | ⟨a1, a2⟩
  · have hu : F.cal_seek K n 1 l = some (t, true) := by unfold F.cal_seek; rw [a5]; rfl
    obtain ⟨y', m', d', hc', _, _, e'⟩ := civ_ok (K := K) (by omega) (show 1 ≤ t by omega) a2
    obtain ⟨y2, m2, d2, hc2, _, _, e2⟩ := civ_ok (K := K) (by omega) n1 n2
    obtain ⟨rfl, rfl, rfl⟩ := hc.uniq hc2
    by_cases g : m = m'
    · left
      exact ⟨t, y', m', d', a1, a2, a3, a4, hc', g, by simp [F.cal_Roll, bi_eq, ccheck_ok hl n1 n2, hu, hv, e', e2, g]⟩
    · right
      simp [F.cal_Roll, bi_eq, ccheck_ok hl n1 n2, hu, hv, e', e2, g]
  · have hu : F.cal_seek K n 1 l = some (0, false) := by unfold F.cal_seek; rw [a2]; rfl
    right
    simp [F.cal_Roll, bi_eq, ccheck_ok hl n1 n2, hu, hv]
theorem scan_ok {K : Nat} (hK : 400 < K) {l : List Int} {n how t : Int} (hl : l.length ≤ 400) (n2 : n ≤ 3652059) (t2 : t ≤ 3652059) (ok : ∀ d, 1 ≤ d → d ≤ 3652059 → (d ≤ n ∨ d ≤ t) → (n ≤ d ∨ t ≤ d) → d ≠ t → Op l d → how = 2 ∧ (d = n ∨ t ≤ n)) : ∀ (k : Nat) (d : Int), 1 ≤ d → d ≤ 3652060 → (n ≤ d ∨ t ≤ d) → (3652060 - d).toNat < k → F.law03_CalNearest_l14 K k n l how t d = some (.inl (n, how, t))
  | 0, d, _, _, _, h => by omega
  | k + 1, d, d1, d2, dm, h => by
    rw [F.law03_CalNearest_l14]
    simp only [bi_eq]
    by_cases c : d ≤ (if t > n then t else n)
    · have c' : d ≤ n ∨ d ≤ t := by split at c <;> omega
      have d3 : d ≤ 3652059 := by omega
      obtain ⟨r, e, hr⟩ := business_ok (n := d) hl hK d1 d3
      have ih := scan_ok hK hl n2 t2 ok k (d + 1) (by omega) (by omega) (by omega) (by omega)
      rw [if_pos (by simpa using c), e, Option.bind_some, iw (x := d + 1) (by omega) (by omega), ih]
      cases r with
      | false => simp
      | true =>
        by_cases q : d = t
        · simp [q]
        · have o := ok d d1 d3 c' dm q (hr.1 rfl)
          rcases o with ⟨o1, o2 | o2⟩
          · simp [o1, o2]
          · have : ¬ n < t := by omega
            simp [o1, this]
    · rw [if_neg (by simpa using c)]
theorem padded_one4 {K : Nat} (hK : 10 ≤ K) : F.cal_padded K 1 4 = some (strOf [48, 48, 48, 49]) := by
  obtain ⟨k, rfl⟩ : ∃ k, K = k + 10 := ⟨K - 10, by omega⟩
  rfl
theorem padded_one2 {K : Nat} (hK : 10 ≤ K) : F.cal_padded K 1 2 = some (strOf [48, 49]) := by
  obtain ⟨k, rfl⟩ : ∃ k, K = k + 10 := ⟨K - 10, by omega⟩
  rfl
theorem awake03_ok {K : Nat} (hK : 20000 ≤ K) : F.law03_awake K = some true := by
  have e1 := cnum_ok (K := K) (by omega) (y := 1970) (by decide) (by decide)
  have ha : ah 1970 + 1 = 719163 := by decide
  rw [ha] at e1
  obtain ⟨y, m, d, hc, _, _, e2⟩ := civ_ok (K := K) hK (n := 1) (by decide) (by decide)
  have h0 : Civ 1 1 1 1 := ⟨by decide, by decide, by decide, by decide, by decide⟩
  obtain ⟨rfl, rfl, rfl⟩ := h0.uniq hc
  unfold F.law03_awake F.cal_Weekday F.cal_Write
  rw [e1, Option.bind_some, cis_ok, Option.bind_some, cis_ok, Option.bind_some, e2]
  simp only [Option.bind_some, padded_one4 (show 10 ≤ K by omega), padded_one2 (show 10 ≤ K by omega)]
  decide +kernel
theorem near_tail {K : Nat} (hK : 4000000 ≤ K) {h : List Int} {n k t : Int} (hl : h.length ≤ 400) (n1 : 1 ≤ n) (n2 : n ≤ 3652059) (t1 : 1 ≤ t) (t2 : t ≤ 3652059) (hr : F.cal_Roll K n h k = some (t, 0)) (ht : Op h t) (k0 : k = 0 → n ≤ t) (k1 : k = 1 → t ≤ n)
    (ok : ∀ d, 1 ≤ d → d ≤ 3652059 → (d ≤ n ∨ d ≤ t) → (n ≤ d ∨ t ≤ d) → d ≠ t → Op h d → k = 2 ∧ (d = n ∨ t ≤ n)) (same : k = 2 → n < t → ∃ y m d y' d', Civ n y m d ∧ Civ t y' m d') :
    ((F.cal_Roll K n
  h
  k).bind fun r37 => (bi (r37.snd != 0)
    (bi (r37.snd == 4)
    (some (r37.fst == 0))
    (some Bool.false))
    ((F.cal_Business K r37.fst
  h).bind fun r38 => (bi (r38.snd != 0)
    (some Bool.false)
    (bi (!r38.fst)
    (some Bool.false)
    (bi (k == 0)
    (bi (Decidable.decide (r37.fst < n))
    (some Bool.false)
    (bi (k == 1)
    (bi (Decidable.decide (r37.fst > n))
    (some Bool.false)
    (casO (F.law03_CalNearest_l14 K K n
  h
  k r37.fst (if r37.fst < n then r37.fst else n)) (fun r39 => ((F.cal_Civil K r39.fst).bind fun r40 => ((F.cal_Civil K r39.snd.snd).bind fun r41 => (bi (r40.snd.snd.snd == 0)
    (bi (r41.snd.snd.snd == 0)
    (bi (r39.snd.fst != 2)
    (some Bool.true)
    (bi (Decidable.decide (r39.snd.snd ≤ r39.fst))
    (some Bool.true)
    (some (r40.snd.fst == r41.snd.fst))))
    (some Bool.false))
    (some Bool.false))))) (fun r42 => (some r42))))
    (casO (F.law03_CalNearest_l14 K K n
  h
  k r37.fst (if r37.fst < n then r37.fst else n)) (fun r43 => ((F.cal_Civil K r43.fst).bind fun r44 => ((F.cal_Civil K r43.snd.snd).bind fun r45 => (bi (r44.snd.snd.snd == 0)
    (bi (r45.snd.snd.snd == 0)
    (bi (r43.snd.fst != 2)
    (some Bool.true)
    (bi (Decidable.decide (r43.snd.snd ≤ r43.fst))
    (some Bool.true)
    (some (r44.snd.fst == r45.snd.fst))))
    (some Bool.false))
    (some Bool.false))))) (fun r46 => (some r46)))))
    (bi (k == 1)
    (bi (Decidable.decide (r37.fst > n))
    (some Bool.false)
    (casO (F.law03_CalNearest_l14 K K n
  h
  k r37.fst (if r37.fst < n then r37.fst else n)) (fun r47 => ((F.cal_Civil K r47.fst).bind fun r48 => ((F.cal_Civil K r47.snd.snd).bind fun r49 => (bi (r48.snd.snd.snd == 0)
    (bi (r49.snd.snd.snd == 0)
    (bi (r47.snd.fst != 2)
    (some Bool.true)
    (bi (Decidable.decide (r47.snd.snd ≤ r47.fst))
    (some Bool.true)
    (some (r48.snd.fst == r49.snd.fst))))
    (some Bool.false))
    (some Bool.false))))) (fun r50 => (some r50))))
    (casO (F.law03_CalNearest_l14 K K n
  h
  k r37.fst (if r37.fst < n then r37.fst else n)) (fun r51 => ((F.cal_Civil K r51.fst).bind fun r52 => ((F.cal_Civil K r51.snd.snd).bind fun r53 => (bi (r52.snd.snd.snd == 0)
    (bi (r53.snd.snd.snd == 0)
    (bi (r51.snd.fst != 2)
    (some Bool.true)
    (bi (Decidable.decide (r51.snd.snd ≤ r51.fst))
    (some Bool.true)
    (some (r52.snd.fst == r53.snd.fst))))
    (some Bool.false))
    (some Bool.false))))) (fun r54 => (some r54)))))))))) = some true := by
  obtain ⟨r, e, he⟩ := business_ok (K := K) (n := t) hl (by omega) t1 t2
  have rt := he.2 ht
  subst rt
  obtain ⟨yn, mn, dn, cn, _⟩ := civ_ok (K := K) (by omega) n1 n2
  obtain ⟨yt, mt, dt, ct, _⟩ := civ_ok (K := K) (by omega) t1 t2
  have vn := civ_at (K := K) (by omega) cn n1 n2
  have vt := civ_at (K := K) (by omega) ct t1 t2
  have sc := scan_ok (K := K) (by omega) (how := k) hl n2 t2 ok K (if t < n then t else n) (by split <;> omega) (by split <;> omega) (by split <;> omega) (by split <;> omega)
  have mm : k = 2 → n < t → mn = mt := fun a b => by
    obtain ⟨y, m, d, y', d', c1, c2⟩ := same a b
    obtain ⟨_, rfl, _⟩ := c1.uniq cn
    obtain ⟨_, rfl, _⟩ := c2.uniq ct
    rfl
  rw [hr, Option.bind_some]
  simp only [bi_eq, e, Option.bind_some, sc, casO, vn, vt]
  by_cases z0 : k = 0
  · have := k0 z0
    have q : ¬ t < n := by omega
    simp [z0, q]
  · by_cases z1 : k = 1
    · have := k1 z1
      have q : ¬ n < t := by omega
      simp [z1, q]
    · by_cases z2 : k = 2
      · by_cases q : n < t
        · have := mm z2 q
          have q' : ¬ t ≤ n := by omega
          simp [z2, q', this]
        · have q' : t ≤ n := by omega
          simp [z2, q']
      · simp [z0, z1, z2]
theorem near_core {K : Nat} (hK : 4000000 ≤ K) {h : List Int} {n k : Int} (hl : h.length ≤ 400) (n1 : 1 ≤ n) (n2 : n ≤ 3652059) (hk : k = 0 ∨ k = 1 ∨ k = 2) :
    ((F.cal_Roll K n
  h
  k).bind fun r37 => (bi (r37.snd != 0)
    (bi (r37.snd == 4)
    (some (r37.fst == 0))
    (some Bool.false))
    ((F.cal_Business K r37.fst
  h).bind fun r38 => (bi (r38.snd != 0)
    (some Bool.false)
    (bi (!r38.fst)
    (some Bool.false)
    (bi (k == 0)
    (bi (Decidable.decide (r37.fst < n))
    (some Bool.false)
    (bi (k == 1)
    (bi (Decidable.decide (r37.fst > n))
    (some Bool.false)
    (casO (F.law03_CalNearest_l14 K K n
  h
  k r37.fst (if r37.fst < n then r37.fst else n)) (fun r39 => ((F.cal_Civil K r39.fst).bind fun r40 => ((F.cal_Civil K r39.snd.snd).bind fun r41 => (bi (r40.snd.snd.snd == 0)
    (bi (r41.snd.snd.snd == 0)
    (bi (r39.snd.fst != 2)
    (some Bool.true)
    (bi (Decidable.decide (r39.snd.snd ≤ r39.fst))
    (some Bool.true)
    (some (r40.snd.fst == r41.snd.fst))))
    (some Bool.false))
    (some Bool.false))))) (fun r42 => (some r42))))
    (casO (F.law03_CalNearest_l14 K K n
  h
  k r37.fst (if r37.fst < n then r37.fst else n)) (fun r43 => ((F.cal_Civil K r43.fst).bind fun r44 => ((F.cal_Civil K r43.snd.snd).bind fun r45 => (bi (r44.snd.snd.snd == 0)
    (bi (r45.snd.snd.snd == 0)
    (bi (r43.snd.fst != 2)
    (some Bool.true)
    (bi (Decidable.decide (r43.snd.snd ≤ r43.fst))
    (some Bool.true)
    (some (r44.snd.fst == r45.snd.fst))))
    (some Bool.false))
    (some Bool.false))))) (fun r46 => (some r46)))))
    (bi (k == 1)
    (bi (Decidable.decide (r37.fst > n))
    (some Bool.false)
    (casO (F.law03_CalNearest_l14 K K n
  h
  k r37.fst (if r37.fst < n then r37.fst else n)) (fun r47 => ((F.cal_Civil K r47.fst).bind fun r48 => ((F.cal_Civil K r47.snd.snd).bind fun r49 => (bi (r48.snd.snd.snd == 0)
    (bi (r49.snd.snd.snd == 0)
    (bi (r47.snd.fst != 2)
    (some Bool.true)
    (bi (Decidable.decide (r47.snd.snd ≤ r47.fst))
    (some Bool.true)
    (some (r48.snd.fst == r49.snd.fst))))
    (some Bool.false))
    (some Bool.false))))) (fun r50 => (some r50))))
    (casO (F.law03_CalNearest_l14 K K n
  h
  k r37.fst (if r37.fst < n then r37.fst else n)) (fun r51 => ((F.cal_Civil K r51.fst).bind fun r52 => ((F.cal_Civil K r51.snd.snd).bind fun r53 => (bi (r52.snd.snd.snd == 0)
    (bi (r53.snd.snd.snd == 0)
    (bi (r51.snd.fst != 2)
    (some Bool.true)
    (bi (Decidable.decide (r51.snd.snd ≤ r51.fst))
    (some Bool.true)
    (some (r52.snd.fst == r53.snd.fst))))
    (some Bool.false))
    (some Bool.false))))) (fun r54 => (some r54)))))))))) = some true := by
  have down : ∀ k' : Int, (k' = 1 ∨ k' = 2) → k = k' → F.cal_Roll K n h k = F.cal_Roll K n h 1 → ((F.cal_Roll K n
  h
  k).bind fun r37 => (bi (r37.snd != 0)
    (bi (r37.snd == 4)
    (some (r37.fst == 0))
    (some Bool.false))
    ((F.cal_Business K r37.fst
  h).bind fun r38 => (bi (r38.snd != 0)
    (some Bool.false)
    (bi (!r38.fst)
    (some Bool.false)
    (bi (k == 0)
    (bi (Decidable.decide (r37.fst < n))
    (some Bool.false)
    (bi (k == 1)
    (bi (Decidable.decide (r37.fst > n))
    (some Bool.false)
    (casO (F.law03_CalNearest_l14 K K n
  h
  k r37.fst (if r37.fst < n then r37.fst else n)) (fun r39 => ((F.cal_Civil K r39.fst).bind fun r40 => ((F.cal_Civil K r39.snd.snd).bind fun r41 => (bi (r40.snd.snd.snd == 0)
    (bi (r41.snd.snd.snd == 0)
    (bi (r39.snd.fst != 2)
    (some Bool.true)
    (bi (Decidable.decide (r39.snd.snd ≤ r39.fst))
    (some Bool.true)
    (some (r40.snd.fst == r41.snd.fst))))
    (some Bool.false))
    (some Bool.false))))) (fun r42 => (some r42))))
    (casO (F.law03_CalNearest_l14 K K n
  h
  k r37.fst (if r37.fst < n then r37.fst else n)) (fun r43 => ((F.cal_Civil K r43.fst).bind fun r44 => ((F.cal_Civil K r43.snd.snd).bind fun r45 => (bi (r44.snd.snd.snd == 0)
    (bi (r45.snd.snd.snd == 0)
    (bi (r43.snd.fst != 2)
    (some Bool.true)
    (bi (Decidable.decide (r43.snd.snd ≤ r43.fst))
    (some Bool.true)
    (some (r44.snd.fst == r45.snd.fst))))
    (some Bool.false))
    (some Bool.false))))) (fun r46 => (some r46)))))
    (bi (k == 1)
    (bi (Decidable.decide (r37.fst > n))
    (some Bool.false)
    (casO (F.law03_CalNearest_l14 K K n
  h
  k r37.fst (if r37.fst < n then r37.fst else n)) (fun r47 => ((F.cal_Civil K r47.fst).bind fun r48 => ((F.cal_Civil K r47.snd.snd).bind fun r49 => (bi (r48.snd.snd.snd == 0)
    (bi (r49.snd.snd.snd == 0)
    (bi (r47.snd.fst != 2)
    (some Bool.true)
    (bi (Decidable.decide (r47.snd.snd ≤ r47.fst))
    (some Bool.true)
    (some (r48.snd.fst == r49.snd.fst))))
    (some Bool.false))
    (some Bool.false))))) (fun r50 => (some r50))))
    (casO (F.law03_CalNearest_l14 K K n
  h
  k r37.fst (if r37.fst < n then r37.fst else n)) (fun r51 => ((F.cal_Civil K r51.fst).bind fun r52 => ((F.cal_Civil K r51.snd.snd).bind fun r53 => (bi (r52.snd.snd.snd == 0)
    (bi (r53.snd.snd.snd == 0)
    (bi (r51.snd.fst != 2)
    (some Bool.true)
    (bi (Decidable.decide (r51.snd.snd ≤ r51.fst))
    (some Bool.true)
    (some (r52.snd.fst == r53.snd.fst))))
    (some Bool.false))
    (some Bool.false))))) (fun r54 => (some r54)))))))))) = some true := by
    intro k' hk' ek er
    rcases roll_down hK hl n1 n2 with ⟨t, a1, a2, a3, a4, a5⟩ | ⟨a1, a5⟩
    · exact near_tail hK hl n1 n2 a1 (by omega) (er.trans a5) a3 (fun e => by omega) (fun e => a2) (fun d d1 d2 dn dm dt o => (a4 d (by omega) (by omega) o).elim) (fun e g => by omega)
    · rw [er, a5]; simp [bi_eq]
  rcases hk with e | e | e
  · rw [e]
    rcases roll_up hK hl n1 n2 with ⟨t, a1, a2, a3, a4, a5⟩ | ⟨a1, a5⟩
    · exact near_tail hK hl n1 n2 (by omega) a2 a5 a3 (fun e => a1) (fun e => by omega) (fun d d1 d2 dn dm dt o => (a4 d (by omega) (by omega) o).elim) (fun e g => by omega)
    · rw [a5]; simp [bi_eq]
  · exact down 1 (.inl rfl) e (by rw [e])
  · obtain ⟨y, m, d, hc, _⟩ := civ_ok (K := K) (by omega) n1 n2
    rcases roll_near hK hl hc n1 n2 with ⟨t, y', m', d', a1, a2, a3, a4, hc', em, a5⟩ | er
    · subst em
      exact near_tail hK hl n1 n2 (by omega) a2 (by rw [e]; exact a5) a3 (fun _ => a1) (fun e' => by omega) (fun d d1 d2 dn dm dt o => (a4 d (by omega) (by omega) o).elim) (fun _ _ => ⟨y, m, d, y', d', hc, hc'⟩)
    · exact down 2 (.inr rfl) e (by rw [e]; exact er)
theorem CalNearest {K : Nat} (hK : 4000000 ≤ K) {x0 x2 : Int} {l : List Int} (h2 : 0 ≤ x2 ∧ x2 ≤ 255) : F.law03_CalNearest K x0 l x2 = some true := by
  have hw : IntKind.i64.wrap (x2.tmod 3) = x2 % 3 := by rw [tm _ h2.1, iw (by omega) (by omega)]
  have hk : x2 % 3 = 0 ∨ x2 % 3 = 1 ∨ x2 % 3 = 2 := by omega
  have hn : 1 ≤ IntKind.i64.wrap (1 + IntKind.i64.wrap ((IntKind.u64.wrap x0).tmod 3652059)) ∧ IntKind.i64.wrap (1 + IntKind.i64.wrap ((IntKind.u64.wrap x0).tmod 3652059)) ≤ 3652059 := by
    have := wu x0
    rw [wu, tm _ (by omega), iw (x := x0 % 18446744073709551616 % 3652059) (by omega) (by omega), iw (by omega) (by omega)]; omega
  have hlen : ([] ++ List.take ((if 60 < (↑l.length : Int) then 60 else (↑l.length : Int)).toNat - 0) (List.drop 0 l)).length ≤ 400 := by
    simp; split <;> omega
  have hlen2 : (0 + (List.take ((if 60 < (↑l.length : Int) then 60 else (↑l.length : Int)).toNat - 0) (List.drop 0 l)).length) ≤ 8796093022208 := by
    simp at hlen ⊢; omega
  unfold F.law03_CalNearest
  rw [awake03_ok (by omega), Option.bind_some, bi_eq, if_neg (by decide), bi_eq, if_pos (by simp; split <;> omega), bi_eq, if_pos (decide_eq_true hlen2), hw, bi_eq]
  by_cases c1 : x0 < 1
  · rw [if_pos (by simpa using c1)]
    exact near_core hK hlen hn.1 hn.2 hk
  · rw [if_neg (by simpa using c1), bi_eq]
    by_cases c2 : x0 > 3652059
    · rw [if_pos (by simpa using c2)]
      exact near_core hK hlen hn.1 hn.2 hk
    · rw [if_neg (by simpa using c2)]
      exact near_core hK hlen (by omega) (by omega) hk
namespace L
theorem CalNearest {a c : Int} {l : List Int} (w0 : (Lit.int .i64 a).wf = true) (w1 : l.length ≤ maxLen ∧ ∀ y ∈ l, (Lit.int .i64 y).wf = true) (w2 : (Lit.int .u8 c).wf = true) : ∃ K, F.law03_CalNearest K a l c = some true :=
  ⟨4000000, Wide.CalNearest (by decide) (by simp [Lit.wf, IntKind.min, IntKind.max, IntKind.signed, IntKind.bits] at w2; omega)⟩
end L
end Go.Proofs.Ytoibhkhgpahdjaa.Wide
