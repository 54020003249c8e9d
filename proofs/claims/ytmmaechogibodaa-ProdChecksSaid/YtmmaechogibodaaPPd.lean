/- Products: checks of a version, what stands in form; the law ProdChecks. Conditions: the tiers within the form's reach. -/
import Derived.Test.YtmmaechogibodaaFQ
import Derived.Test.YtmmaechogibodaaPPa
import Derived.Test.YtmmaechogibodaaVmZ
set_option linter.unusedVariables false
set_option linter.unusedSimpArgs false
namespace Go.Proofs.Ytmmaechogibodaa.Wide
open Go Go.RowKit Go.Proofs.Ytmmaechogibodaa.Vm
theorem pwithin_ok (K : Nat) (n m : Int) : F.prod_within K n m = some (decide (0 ≤ n ∧ n ≤ m)) := by
  unfold F.prod_within
  rw [bi_eq]
  by_cases c : n ≥ 0 <;> simp [c]
/-- A tier: from which amount on, at which rate. -/
abbrev fr (q : List (List Int)) (i : Nat) : Int := nth 0 (nth [] q i) 0
abbrev rt (q : List (List Int)) (i : Nat) : Int := nth 0 (nth [] q i) 1
/-- A tier that may not stand there. -/
def TB (q : List (List Int)) (i : Nat) : Prop := (0 < i ∧ fr q i ≤ fr q (i - 1)) ∨ 10000000000000 < fr q i ∨ rt q i < 0 ∨ 1000000000 < rt q i
instance (q : List (List Int)) (i : Nat) : Decidable (TB q i) := by unfold TB; infer_instance
theorem tiers_step {K k : Nat} {q : List (List Int)} (hq : q.length ≤ 1000) {i : Nat} (hi : i < q.length) : F.prod_Tiers_l6 K (k + 1) q q (q.length : Int) (i : Int) = if TB q i then some (.inr 3) else F.prod_Tiers_l6 K k q q (q.length : Int) ((i + 1 : Nat) : Int) := by
  rw [F.prod_Tiers_l6]
  have c1 : (i : Int) < (q.length : Int) := by omega
  have w1 : IntKind.i64.wrap ((i : Int) + 1) = ((i + 1 : Nat) : Int) := by rw [iw (by omega) (by omega)]; omega
  simp only [bi_eq, pwithin_ok, Option.bind_some, w1, Int.toNat_natCast]
  unfold TB
  by_cases c0 : 0 < i
  · have c0' : (i : Int) > 0 := by omega
    have w2 : IntKind.i64.wrap ((i : Int) - 1) = ((i - 1 : Nat) : Int) := by rw [iw (by omega) (by omega)]; omega
    have c2 : ((i - 1 : Nat) : Int) < (q.length : Int) := by omega
    simp only [w2, Int.toNat_natCast]
    by_cases d1 : nth 0 (nth [] q i) 0 ≤ nth 0 (nth [] q (i - 1)) 0
    · simp [c0, c0', c1, c2, d1]
    · by_cases d2 : nth 0 (nth [] q i) 0 > 10000000000000
      · have d2' : 10000000000000 < nth 0 (nth [] q i) 0 := d2
        simp [c0, c0', c1, c2, d1, d2']
      · have d2' : ¬ 10000000000000 < nth 0 (nth [] q i) 0 := d2
        by_cases d3 : 0 ≤ nth 0 (nth [] q i) 1 ∧ nth 0 (nth [] q i) 1 ≤ 1000000000
        · have d4 : ¬ (nth 0 (nth [] q i) 1 < 0) := by omega
          have d5 : ¬ (1000000000 < nth 0 (nth [] q i) 1) := by omega
          simp [c0, c0', c1, c2, d1, d2', d3, d4, d5]
        · have d4 : nth 0 (nth [] q i) 1 < 0 ∨ 1000000000 < nth 0 (nth [] q i) 1 := by omega
          simp [c0, c0', c1, c2, d1, d2', d3, d4]
  · have c0' : ¬ (i : Int) > 0 := by omega
    by_cases d2 : nth 0 (nth [] q i) 0 > 10000000000000
    · have d2' : 10000000000000 < nth 0 (nth [] q i) 0 := d2
      simp [c0, c0', c1, d2']
    · have d2' : ¬ 10000000000000 < nth 0 (nth [] q i) 0 := d2
      by_cases d3 : 0 ≤ nth 0 (nth [] q i) 1 ∧ nth 0 (nth [] q i) 1 ≤ 1000000000
      · have d4 : ¬ (nth 0 (nth [] q i) 1 < 0) := by omega
        have d5 : ¬ (1000000000 < nth 0 (nth [] q i) 1) := by omega
        simp [c0, c0', c1, d2', d3, d4, d5]
      · have d4 : nth 0 (nth [] q i) 1 < 0 ∨ 1000000000 < nth 0 (nth [] q i) 1 := by omega
        simp [c0, c0', c1, d2', d3, d4]
/-- Tiers in form. -/
def Tok (q : List (List Int)) : Prop := 0 < q.length ∧ q.length ≤ 8 ∧ fr q 0 = 0 ∧ ∀ i, i < q.length → ¬ TB q i
theorem tiers_loop {K : Nat} {q : List (List Int)} (hq : q.length ≤ 1000) : ∀ (k i : Nat), i ≤ q.length → q.length - i < k → ((∀ j, i ≤ j → j < q.length → ¬ TB q j) → F.prod_Tiers_l6 K k q q (q.length : Int) (i : Int) = some (.inl ())) ∧
    ((∃ j, i ≤ j ∧ j < q.length ∧ TB q j) → F.prod_Tiers_l6 K k q q (q.length : Int) (i : Int) = some (.inr 3))
  | 0, i, _, h => by omega
  | k + 1, i, hi, h => by
    by_cases c : i < q.length
    · have ih := tiers_loop (K := K) hq k (i + 1) (by omega) (by omega)
      rw [tiers_step hq c]
      constructor
      · intro hn
        rw [if_neg (hn i (Nat.le_refl _) c)]
        exact ih.1 fun j h1 h2 => hn j (by omega) h2
      · rintro ⟨j, h1, h2, h3⟩
        by_cases t : TB q i
        · rw [if_pos t]
        · rw [if_neg t]
          have : j ≠ i := fun e => t (e ▸ h3)
          exact ih.2 ⟨j, by omega, h2, h3⟩
    · constructor
      · intro _
        rw [F.prod_Tiers_l6, bi_eq, if_neg (by simp; omega)]
      · rintro ⟨j, h1, h2, _⟩; omega
theorem tiers_ok (K : Nat) (hK : 100 ≤ K) (q : List (List Int)) (h : Tok q) : F.prod_Tiers K q = some 0 := by
  obtain ⟨h1, h2, h3, h4⟩ := h
  have key := (tiers_loop (K := K) (q := q) (by omega) K 0 (by omega) (by omega)).1 fun j _ hj => h4 j hj
  have key' : F.prod_Tiers_l6 K K q q (q.length : Int) 0 = some (.inl ()) := key
  unfold F.prod_Tiers
  have h3' : nth 0 (nth [] q 0) 0 = 0 := h3
  have a1 : ¬ 8 < q.length := by omega
  have a2 : ¬ q = [] := by intro e; subst e; simp at h1
  simp only [bi_eq, key', h3']
  rw [if_neg (by simp; omega), if_neg (by simpa using a2), if_pos (by simpa using h1), if_neg (by decide)]
  rfl
/-- The code of tiers. -/
theorem tiers_bad (K : Nat) (hK : 100 ≤ K) (q : List (List Int)) (h : ¬ Tok q) : F.prod_Tiers K q = some (if 8 < q.length then 2 else 3) := by
  unfold F.prod_Tiers
  simp only [bi_eq]
  by_cases a1 : 8 < q.length
  · rw [if_pos (by simp; omega), if_pos a1]
  · rw [if_neg (by simp; omega), if_neg a1]
    by_cases a2 : q = []
    · subst a2; rfl
    · have a3 : 0 < q.length := by cases q with | nil => exact absurd rfl a2 | cons x l => simp
      rw [if_neg (by simpa using a2), if_pos (by simpa using a3)]
      by_cases a4 : nth 0 (nth [] q 0) 0 = 0
      · have hex : ∃ j, 0 ≤ j ∧ j < q.length ∧ TB q j := by
          by_cases g : ∃ j, 0 ≤ j ∧ j < q.length ∧ TB q j
          · exact g
          · exact absurd ⟨a3, by omega, a4, fun i hi ht => g ⟨i, by omega, hi, ht⟩⟩ h
        have key := (tiers_loop (K := K) (q := q) (by omega) K 0 (by omega) (by omega)).2 hex
        have key' : F.prod_Tiers_l6 K K q q (q.length : Int) 0 = some (.inr 3) := key
        rw [if_neg (by simpa using a4), key']; rfl
      · rw [if_pos (by simpa using a4)]
instance (q : List (List Int)) : Decidable (Tok q) := by unfold Tok; infer_instance
def zc (q : List (List Int)) : Int := if Tok q then 0 else if 8 < q.length then 2 else 3
theorem zc_two (q : List (List Int)) : zc q = 0 ∨ 2 ≤ zc q := by unfold zc; split <;> (try split) <;> omega
theorem zc_zero {q : List (List Int)} : zc q = 0 ↔ Tok q := by
  unfold zc
  by_cases h : Tok q
  · simp [h]
  · rw [if_neg h]; constructor
    · intro g; split at g <;> omega
    · intro g; exact (h g).elim
theorem tiers_val {K : Nat} (hK : 100 ≤ K) (q : List (List Int)) : F.prod_Tiers K q = some (zc q) := by
  unfold zc
  by_cases h : Tok q
  · rw [if_pos h, tiers_ok K hK q h]
  · rw [if_neg h, tiers_bad K hK q h]
/-- What the reference refuses in a tier. -/
def RB (q : List (List Int)) (i : Nat) : Prop := (i = 0 ∧ fr q 0 ≠ 0) ∨ TB q i
instance (q : List (List Int)) (i : Nat) : Decidable (RB q i) := by unfold RB; infer_instance
def before (q : List (List Int)) (i : Nat) : Int := if i = 0 then -1 else fr q (i - 1)
theorem rtier_step {K k : Nat} {q : List (List Int)} (hq : q.length ≤ 1000) {i : Nat} (hi : i < q.length) : F.ref12_Tiers_l5 K (k + 1) q (before q i) q (q.length : Int) (i : Int) = if RB q i then some (.inr 3) else F.ref12_Tiers_l5 K k q (before q (i + 1)) q (q.length : Int) ((i + 1 : Nat) : Int) := by
  rw [F.ref12_Tiers_l5]
  have w1 : IntKind.i64.wrap ((i : Int) + 1) = ((i + 1 : Nat) : Int) := by rw [iw (by omega) (by omega)]; omega
  simp only [bi_eq, w1, Int.toNat_natCast]
  rw [if_pos (by simp; omega), if_pos (by simp; omega)]
  have bs : before q (i + 1) = nth 0 (nth [] q i) 0 := by unfold before; rw [if_neg (by omega)]; rfl
  rw [bs]
  unfold before
  by_cases c0 : i = 0
  · subst c0
    rw [if_pos (by decide)]
    have R0 : RB q 0 ↔ (nth 0 (nth [] q 0) 0 ≠ 0 ∨ nth 0 (nth [] q 0) 1 < 0 ∨ 1000000000 < nth 0 (nth [] q 0) 1) := by unfold RB TB fr rt; omega
    by_cases a1 : nth 0 (nth [] q 0) 0 = 0
    · rw [if_neg (show ¬ ((nth 0 (nth [] q 0) 0 != 0) = true) by simpa using a1), if_neg (by simp; omega), if_neg (by simp; omega)]
      by_cases a2 : nth 0 (nth [] q 0) 1 < 0
      · rw [if_pos (by simpa using a2), if_pos (R0.2 (by omega))]
      · rw [if_neg (by simpa using a2)]
        by_cases a3 : nth 0 (nth [] q 0) 1 > 1000000000
        · rw [if_pos (by simpa using a3), if_pos (R0.2 (by omega))]
        · rw [if_neg (by simpa using a3), if_neg (fun h => by have := R0.1 h; omega)]
    · rw [if_pos (by simpa using a1), if_pos (R0.2 (by omega))]
  · rw [if_neg (by simp; omega)]
    simp only [if_neg c0]
    have R1 : RB q i ↔ (nth 0 (nth [] q i) 0 ≤ nth 0 (nth [] q (i - 1)) 0 ∨ 10000000000000 < nth 0 (nth [] q i) 0 ∨ nth 0 (nth [] q i) 1 < 0 ∨ 1000000000 < nth 0 (nth [] q i) 1) := by unfold RB TB fr rt; omega
    by_cases a1 : nth 0 (nth [] q i) 0 ≤ nth 0 (nth [] q (i - 1)) 0
    · rw [if_pos (by simpa using a1), if_pos (R1.2 (by omega))]
    · rw [if_neg (by simpa using a1)]
      by_cases a4 : nth 0 (nth [] q i) 0 > 10000000000000
      · rw [if_pos (by simpa using a4), if_pos (R1.2 (by omega))]
      · rw [if_neg (by simpa using a4)]
        by_cases a2 : nth 0 (nth [] q i) 1 < 0
        · rw [if_pos (by simpa using a2), if_pos (R1.2 (by omega))]
        · rw [if_neg (by simpa using a2)]
          by_cases a3 : nth 0 (nth [] q i) 1 > 1000000000
          · rw [if_pos (by simpa using a3), if_pos (R1.2 (by omega))]
          · rw [if_neg (by simpa using a3), if_neg (fun h => by have := R1.1 h; omega)]
theorem rtiers_loop {K : Nat} {q : List (List Int)} (hq : q.length ≤ 1000) : ∀ (k i : Nat), i ≤ q.length → q.length - i < k → ((∀ j, i ≤ j → j < q.length → ¬ RB q j) → F.ref12_Tiers_l5 K k q (before q i) q (q.length : Int) (i : Int) = some (.inl q)) ∧
    ((∃ j, i ≤ j ∧ j < q.length ∧ RB q j) → F.ref12_Tiers_l5 K k q (before q i) q (q.length : Int) (i : Int) = some (.inr 3))
  | 0, i, _, h => by omega
  | k + 1, i, hi, h => by
    by_cases c : i < q.length
    · have ih := rtiers_loop (K := K) hq k (i + 1) (by omega) (by omega)
      rw [rtier_step hq c]
      constructor
      · intro hn
        rw [if_neg (hn i (Nat.le_refl _) c)]
        exact ih.1 fun j h1 h2 => hn j (by omega) h2
      · rintro ⟨j, h1, h2, h3⟩
        by_cases t : RB q i
        · rw [if_pos t]
        · rw [if_neg t]
          have : j ≠ i := fun e => t (e ▸ h3)
          exact ih.2 ⟨j, by omega, h2, h3⟩
    · constructor
      · intro _
        rw [F.ref12_Tiers_l5, bi_eq, if_neg (by simp; omega)]
      · rintro ⟨j, h1, h2, _⟩; omega
theorem rtiers_val {K : Nat} (hK : 100 ≤ K) (q : List (List Int)) : F.ref12_Tiers K q = some (zc q) := by
  unfold F.ref12_Tiers zc
  simp only [bi_eq]
  by_cases a1 : 8 < q.length
  · rw [if_pos (by simp; omega), if_neg (fun h : Tok q => by have := h.2.1; omega), if_pos a1]
  · rw [if_neg (by simp; omega)]
    have lo := rtiers_loop (K := K) (q := q) (by omega) K 0 (by omega) (by omega)
    have b0 : before q 0 = -1 := rfl
    rw [b0] at lo
    by_cases t : Tok q
    · rw [if_pos t]
      have nb : ∀ j, 0 ≤ j → j < q.length → ¬ RB q j := fun j _ hj hb => by
        rcases hb with ⟨e, h⟩ | h
        · exact h t.2.2.1
        · exact t.2.2.2 j hj h
      have e := lo.1 nb
      have e' : F.ref12_Tiers_l5 K K q (-1) q (q.length : Int) 0 = some (.inl q) := e
      rw [e']
      simp only [casO, Option.bind_some]
      rw [if_neg (by have := t.1; simp; intro g; rw [g] at this; simp at this)]
    · rw [if_neg t, if_neg a1]
      by_cases e0 : q.length = 0
      · have nb : ∀ j, 0 ≤ j → j < q.length → ¬ RB q j := fun j _ hj => by omega
        have e' : F.ref12_Tiers_l5 K K q (-1) q (q.length : Int) 0 = some (.inl q) := lo.1 nb
        rw [e']
        simp only [casO, Option.bind_some]
        rw [if_pos (by simp [e0])]
      · have ex : ∃ j, 0 ≤ j ∧ j < q.length ∧ RB q j := by
          apply Classical.byContradiction
          intro hn
          apply t
          refine ⟨by omega, by omega, ?_, fun i hi hb => hn ⟨i, by omega, hi, .inr hb⟩⟩
          apply Classical.byContradiction
          intro h0
          exact hn ⟨0, by omega, by omega, .inl ⟨rfl, h0⟩⟩
        have e' : F.ref12_Tiers_l5 K K q (-1) q (q.length : Int) 0 = some (.inr 3) := lo.2 ex
        rw [e']
        rfl
/-- What a version by itself may not have. -/
def CkBad (a kd cu dy bs md fe li : Int) : Prop := a < 1 ∨ 1000000000 < a ∨ kd < 1 ∨ 2 < kd ∨ cu < 0 ∨ 3 < cu ∨ dy < 1 ∨ 3652059 < dy ∨ bs < 0 ∨ 3 < bs ∨ md < 0 ∨ 6 < md ∨ fe < 0 ∨ 10000000000000 < fe ∨ li < 0 ∨ 10000000000000 < li
instance (a kd cu dy bs md fe li : Int) : Decidable (CkBad a kd cu dy bs md fe li) := by unfold CkBad; infer_instance
def ck (a kd cu dy bs md fe li : Int) (q : List (List Int)) : Int := if CkBad a kd cu dy bs md fe li then 1 else zc q
theorem ck_step {c : Bool} {rest : Option Int} {B : Prop} [Decidable B] {z : Int} (h1 : c = true → B) (h2 : c = false → rest = some (if B then 1 else z)) : bi c (some 1) rest = some (if B then 1 else z) := by
  cases c with
  | true => rw [bi_eq, if_pos rfl, if_pos (h1 rfl)]
  | false => rw [bi_eq, if_neg (by decide)]; exact h2 rfl
theorem digits_val (K : Nat) (cu : Int) : ∃ x, F.money_Digits K cu = some (x, if 0 ≤ cu ∧ cu ≤ 3 then 0 else 1) := by
  by_cases h0 : cu = 0
  · subst h0; exact ⟨2, by kernel_rfl⟩
  by_cases h1 : cu = 1
  · subst h1; exact ⟨2, by kernel_rfl⟩
  by_cases h2 : cu = 2
  · subst h2; exact ⟨0, by kernel_rfl⟩
  by_cases h3 : cu = 3
  · subst h3; exact ⟨3, by kernel_rfl⟩
  refine ⟨0, ?_⟩
  unfold F.money_Digits F.money_name F.money_figures
  simp only [bi_eq]
  rw [if_neg (by simpa using h0), if_neg (by simpa using h1), if_neg (by simpa using h2), if_neg (by simpa using h3), if_neg (show ¬ (0 ≤ cu ∧ cu ≤ 3) by omega), Option.bind_some]
  rw [if_pos (by kernel_rfl)]
theorem check_val {K : Nat} (hK : 100 ≤ K) (a kd cu dy bs md fe li : Int) (q : List (List Int)) : F.prod_Check K a kd cu dy bs md fe li q = some (ck a kd cu dy bs md fe li q) := by
  obtain ⟨x, hx⟩ := digits_val K cu
  unfold F.prod_Check ck
  rw [hx, Option.bind_some]
  refine ck_step (fun h => by simp at h; unfold CkBad; omega) fun h1 => ?_
  refine ck_step (fun h => by simp at h; unfold CkBad; omega) fun h2 => ?_
  have fin : ∀ (h3 : ¬ (kd < 1 ∨ 2 < kd)), (bi ((if 0 ≤ cu ∧ cu ≤ 3 then (0 : Int) else 1) != 0) (some 1) (bi (decide (dy < 1)) (some 1) (bi (decide (dy > 3652059)) (some 1) (bi (decide (bs < 0)) (some 1) (bi (decide (bs > 3)) (some 1) (bi (decide (md < 0)) (some 1) (bi (decide (md > 6)) (some 1)
      ((F.prod_within K fe 10000000000000).bind fun r1 => bi (!r1) (some 1) ((F.prod_within K li 10000000000000).bind fun r2 => bi (!r2) (some 1) ((F.prod_Tiers K q).bind fun r3 => some r3)))))))))) = some (if CkBad a kd cu dy bs md fe li then 1 else zc q) := fun h3 => by
    refine ck_step (fun h => by by_cases c : 0 ≤ cu ∧ cu ≤ 3 <;> simp [c] at h; unfold CkBad; omega) fun h4 => ?_
    refine ck_step (fun h => by simp at h; unfold CkBad; omega) fun h5 => ?_
    refine ck_step (fun h => by simp at h; unfold CkBad; omega) fun h6 => ?_
    refine ck_step (fun h => by simp at h; unfold CkBad; omega) fun h7 => ?_
    refine ck_step (fun h => by simp at h; unfold CkBad; omega) fun h8 => ?_
    refine ck_step (fun h => by simp at h; unfold CkBad; omega) fun h9 => ?_
    refine ck_step (fun h => by simp at h; unfold CkBad; omega) fun h10 => ?_
    rw [pwithin_ok, Option.bind_some]
    refine ck_step (fun h => by simp at h; unfold CkBad; omega) fun h11 => ?_
    rw [pwithin_ok, Option.bind_some]
    refine ck_step (fun h => by simp at h; unfold CkBad; omega) fun h12 => ?_
    rw [tiers_val hK, Option.bind_some, if_neg]
    have h4 : 0 ≤ cu ∧ cu ≤ 3 := by
      by_cases c : 0 ≤ cu ∧ cu ≤ 3
      · exact c
      · rw [if_neg c] at h4; cases h4
    simp at h1 h2 h5 h6 h7 h8 h9 h10 h11 h12
    unfold CkBad
    omega
  rw [bi_eq]
  split
  · rename_i h
    refine ck_step (fun h' => by simp at h h'; unfold CkBad; omega) fun h3 => ?_
    exact fin (by simp at h h3; omega)
  · rename_i h
    exact fin (by simp at h; omega)
theorem rcur_ok (K : Nat) (x : Int) : F.ref05_Cur K x = some (decide (0 ≤ x ∧ x ≤ 3)) := by
  unfold F.ref05_Cur
  rw [bi_eq]
  by_cases c : x ≥ 0
  · rw [if_pos (by simpa using c)]; congr 1; exact decide_eq_decide.2 (by omega)
  · rw [if_neg (by simpa using c)]; congr 1; simp only [Bool.false_eq, decide_eq_false_iff_not]; omega
theorem ris_ok (K : Nat) (x : Int) : F.ref03_Is K x = some (decide (1 ≤ x ∧ x ≤ 3652059)) := by
  unfold F.ref03_Is
  rw [bi_eq]
  by_cases c : x ≥ 1
  · rw [if_pos (by simpa using c)]; congr 1; exact decide_eq_decide.2 (by omega)
  · rw [if_neg (by simpa using c)]; congr 1; simp only [Bool.false_eq, decide_eq_false_iff_not]; omega
theorem rcheck_val {K : Nat} (hK : 100 ≤ K) (a kd cu dy bs md fe li : Int) (q : List (List Int)) : F.ref12_Check K a kd cu dy bs md fe li q = some (ck a kd cu dy bs md fe li q) := by
  unfold F.ref12_Check ck
  refine ck_step (fun h => by simp at h; unfold CkBad; omega) fun h1 => ?_
  refine ck_step (fun h => by simp at h; unfold CkBad; omega) fun h2 => ?_
  refine ck_step (fun h => by simp at h; unfold CkBad; omega) fun h3 => ?_
  refine ck_step (fun h => by simp at h; unfold CkBad; omega) fun h4 => ?_
  rw [rcur_ok, Option.bind_some]
  refine ck_step (fun h => by simp at h; unfold CkBad; omega) fun h5 => ?_
  rw [ris_ok, Option.bind_some]
  refine ck_step (fun h => by simp at h; unfold CkBad; omega) fun h6 => ?_
  refine ck_step (fun h => by simp at h; unfold CkBad; omega) fun h7 => ?_
  refine ck_step (fun h => by simp at h; unfold CkBad; omega) fun h8 => ?_
  refine ck_step (fun h => by simp at h; unfold CkBad; omega) fun h9 => ?_
  refine ck_step (fun h => by simp at h; unfold CkBad; omega) fun h10 => ?_
  refine ck_step (fun h => by simp at h; unfold CkBad; omega) fun h11 => ?_
  refine ck_step (fun h => by simp at h; unfold CkBad; omega) fun h12 => ?_
  refine ck_step (fun h => by simp at h; unfold CkBad; omega) fun h13 => ?_
  refine ck_step (fun h => by simp at h; unfold CkBad; omega) fun h14 => ?_
  rw [rtiers_val hK, Option.bind_some, if_neg]
  simp at h1 h2 h3 h4 h5 h6 h7 h8 h9 h10 h11 h12 h13 h14
  unfold CkBad
  omega
theorem bi_no {α : Type} {c : Bool} {a b : α} (h : c = false) : bi c a b = b := by rw [h]
theorem bi_yes {α : Type} {c : Bool} {a b : α} (h : c = true) : bi c a b = a := by rw [h]
theorem same_loop12 {K : Nat} (a b c d e f g h : Int) {q : List (List Int)} (hq : q.length < 4000000000000000000) : ∀ (k i : Nat), i ≤ q.length → q.length - i < k → F.ref12_Same_l4 K k (q.length : Int) (i : Int) a b c d e f g h q a b c d e f g h q = some (.inl ()) := by
  intro k
  induction k with
  | zero => intro i _ h; omega
  | succ k ih =>
    intro i hi hk
    unfold F.ref12_Same_l4
    by_cases w : i < q.length
    · have inb : (Decidable.decide ((0 : Int) ≤ (i : Int)) && Decidable.decide ((i : Int) < (q.length : Int))) = true := by simp; omega
      rw [bi_yes (decide_eq_true (show (i : Int) < (q.length : Int) by omega)), bi_yes inb, bi_yes inb, bi_no (by simp), show IntKind.i64.wrap ((i : Int) + 1) = ((i + 1 : Nat) : Int) by rw [iw (by omega) (by omega)]; omega]
      exact ih (i + 1) (by omega) (by omega)
    · rw [bi_no (decide_eq_false (show ¬ (i : Int) < (q.length : Int) by omega))]
theorem same12 {K : Nat} (a b c d e f g h : Int) {q : List (List Int)} (hq : q.length < 4000000000000000000) (hK : q.length < K) : F.ref12_Same K a b c d e f g h q a b c d e f g h q = some true := by
  unfold F.ref12_Same
  simp only [bne_self_eq_false]
  rw [bi_no rfl, bi_no rfl, bi_no rfl, bi_no rfl, bi_no rfl, bi_no rfl, bi_no rfl, bi_no rfl, bi_no rfl, show (0 : Int) = ((0 : Nat) : Int) from rfl, same_loop12 a b c d e f g h hq K 0 (by omega) (by omega)]
  rfl
theorem of_pre (K : Nat) (a kd cu dy bs md fe li : Int) {q : List (List Int)} (hq : q.length * 16 ≤ reachBytes) : F.law12_of K a kd cu dy bs md fe li q = some (a, kd, cu, dy, bs, md, fe, li, [(q.length : Int)] :: (q ++ [[77, 0]])) := by
  have hr : reachBytes = 140737488351232 := rfl
  unfold F.law12_of
  simp only [bi_eq]
  rw [if_pos (by simp; omega), if_pos (by simp; omega), if_pos (by simp; omega)]
  simp
theorem ProdChecks {k : Nat} (a kd cu dy bs md fe li : Int) {q : List (List Int)} (hq : q.length * 16 ≤ reachBytes) (hk : q.length < k) : F.law12_ProdChecks (k + 100) a kd cu dy bs md fe li q = some true := by
  have hr : reachBytes = 140737488351232 := rfl
  unfold F.law12_ProdChecks
  rw [of_pre _ a kd cu dy bs md fe li hq, Option.bind_some, awake12, Option.bind_some, bi_yes rfl]
  have t1 : List.take (nth 0 (nth [] ([(q.length : Int)] :: (q ++ [[77, 0]])) 0) 0).toNat (List.drop 0 (List.drop 1 ([(q.length : Int)] :: (q ++ [[77, 0]])))) = q := by
    show List.take (q.length : Int).toNat (q ++ [[77, 0]]) = q
    rw [Int.toNat_natCast, List.take_append_of_le_length (Nat.le_refl _), List.take_length]
  simp only [t1]
  have hb : F.law12_back (k + 100) a kd cu dy bs md fe li q = some (a, kd, cu, dy, bs, md, fe, li, q) := rfl
  rw [check_val (by omega), Option.bind_some, rcheck_val (by omega), Option.bind_some, bi_yes (by simp), tiers_val (by omega), Option.bind_some, rtiers_val (by omega), Option.bind_some, bi_yes (by simp), hb, Option.bind_some]
  simp only
  rw [same12 a kd cu dy bs md fe li (by omega) (by omega), Option.bind_some, bi_yes rfl]
  have w : IntKind.i64.wrap ((q.length : Int) + 1) = ((q.length + 1 : Nat) : Int) := by rw [iw (by omega) (by omega)]; omega
  have l1 : (List.drop 1 ([(q.length : Int)] :: (q ++ [[77, 0]]))).length = q.length + 1 := by
    show (q ++ [[77, 0]]).length = _
    rw [List.length_append]; rfl
  have l2 : nth [] (List.drop 1 ([(q.length : Int)] :: (q ++ [[77, 0]]))) (0 + (q.length : Int).toNat) = [77, 0] := by
    show nth [] (q ++ [[77, 0]]) (0 + (q.length : Int).toNat) = _
    rw [Nat.zero_add, Int.toNat_natCast, nth_eq, List.getD_eq_getElem?_getD, List.getElem?_append_right (by omega), Nat.sub_self]; rfl
  rw [w, l1, l2, Int.toNat_natCast, Nat.sub_zero, bi_yes (by simp; omega), bi_yes (by simp; omega)]
  rfl
namespace L
theorem ProdChecks {a kd cu dy bs md fe li : Int} {q : List (List Int)} (w0 : (Lit.int .i64 a).wf = true) (w1 : (Lit.int .i64 kd).wf = true) (w2 : (Lit.int .i64 cu).wf = true) (w3 : (Lit.int .i64 dy).wf = true) (w4 : (Lit.int .i64 bs).wf = true) (w5 : (Lit.int .i64 md).wf = true) (w6 : (Lit.int .i64 fe).wf = true) (w7 : (Lit.int .i64 li).wf = true)
    (w8 : q.length ≤ maxLen ∧ ∀ r ∈ q, KsOk [.i64, .i64] r) (hq : UFit reachBytes (.recs [.i64, .i64] false) (.rr q)) : ∃ K, F.law12_ProdChecks K a kd cu dy bs md fe li q = some true :=
  ⟨q.length + 1 + 100, Wide.ProdChecks (k := q.length + 1) a kd cu dy bs md fe li hq (by omega)⟩
end L
end Go.Proofs.Ytmmaechogibodaa.Wide
