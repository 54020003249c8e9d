/- money.Split in plain terms. Conditions: none here. -/
import Derived.Test.YtfeifhlnidkbbaaPSg
import Derived.Test.YtfeifhlnidkbbaaPDv
set_option linter.unusedVariables false
set_option linter.unusedSimpArgs false
namespace Go.Proofs.Ytfeifhlnidkbbaa.Wide
open Go Go.RowKit Go.Proofs.Ytfeifhlnidkbbaa.Vm
/-- The sum of f over the numbers below n. -/
def sm (f : Nat → Int) : Nat → Int
  | 0 => 0
  | n + 1 => sm f n + f n
theorem sm_congr {f g : Nat → Int} : ∀ {n : Nat}, (∀ i, i < n → f i = g i) → sm f n = sm g n
  | 0, _ => rfl
  | n + 1, h => by rw [sm, sm, sm_congr fun i hi => h i (by omega), h n (by omega)]
theorem sm_add (f g : Nat → Int) : ∀ n : Nat, sm (fun i => f i + g i) n = sm f n + sm g n
  | 0 => rfl
  | n + 1 => by rw [sm, sm, sm, sm_add f g n]; omega
theorem sm_bd {f : Nat → Int} {A : Int} : ∀ {n : Nat}, (∀ i, i < n → 0 ≤ f i ∧ f i ≤ A) → 0 ≤ sm f n ∧ sm f n ≤ n * A
  | 0, _ => by simp [sm]
  | n + 1, h => by
    have := sm_bd (n := n) fun i hi => h i (by omega)
    have := h n (by omega)
    have e : ((n + 1 : Nat) : Int) * A = n * A + A := by push_cast; rw [Int.add_mul]; omega
    rw [sm, e]
    omega
theorem sm_one {f : Nat → Int} {n : Nat} (h : ∀ i, i < n → 0 ≤ f i) {j : Nat} (hj : j < n) : f j ≤ sm f n := by
  induction n with
  | zero => omega
  | succ n ih =>
    have := (show ∀ m, (∀ i, i < m → 0 ≤ f i) → 0 ≤ sm f m from fun m => by
      induction m with
      | zero => intro _; simp [sm]
      | succ m ih => intro h; have := ih fun i hi => h i (by omega); have := h m (by omega); rw [sm]; omega) n fun i hi => h i (by omega)
    have := h n (by omega)
    rw [sm]
    rcases Nat.lt_or_ge j n with c | c
    · have := ih (fun i hi => h i (by omega)) c; omega
    · have : j = n := by omega
      subst this; omega
theorem sm_mul (c : Int) (f : Nat → Int) : ∀ n : Nat, sm (fun i => c * f i) n = c * sm f n
  | 0 => by simp [sm]
  | n + 1 => by rw [sm, sm, sm_mul c f n, Int.mul_add]
/-- Weights that may be. -/
def Wok (w : List Int) : Prop := ∀ i, i < w.length → 0 ≤ nth 0 w i ∧ nth 0 w i ≤ 1000000000
theorem l3_bad {K : Nat} {w : List Int} {c m : Int} (hl : w.length ≤ 9223372036854775807) : ∀ (k i : Nat) (x : Int), (∃ j, i ≤ j ∧ j < w.length ∧ ¬ (0 ≤ nth 0 w j ∧ nth 0 w j ≤ 1000000000)) → w.length - i < k → 0 ≤ x ∧ x ≤ 4611686018427387904 →
    F.money_Split_l3 K k w x w (w.length : Int) (i : Int) c m = some (Sum.inr ([], 1))
  | 0, i, x, _, hk, _ => by omega
  | k + 1, i, x, h, hk, hx => by
    obtain ⟨j, j1, j2, j3⟩ := h
    rw [F.money_Split_l3]
    simp only [bi_eq, Int.toNat_natCast]
    rw [if_pos (by simp <;> omega), if_pos (by simp <;> omega)]
    by_cases a : nth 0 w i < 0
    · rw [if_pos (by simpa using a)]
    · rw [if_neg (by simpa using a)]
      by_cases b : nth 0 w i > 1000000000
      · rw [if_pos (by simpa using b)]
      · rw [if_neg (by simpa using b), iw (x := x + nth 0 w i) (by omega) (by omega), iw (x := (i : Int) + 1) (by omega) (by omega), show (i : Int) + 1 = ((i + 1 : Nat) : Int) by omega]
        refine l3_bad hl k (i + 1) _ ⟨j, ?_, j2, j3⟩ (by omega) (by split <;> omega)
        rcases Nat.lt_or_ge i j with c | c
        · exact c
        · have : j = i := by omega
          subst this
          exact absurd ⟨by omega, by omega⟩ j3
theorem l3_good {K : Nat} {w : List Int} {c m : Int} (hw : Wok w) (hl : w.length ≤ 9223372036854775807) : ∀ (k i : Nat) (x : Int), i ≤ w.length → w.length - i < k → 0 ≤ x ∧ x ≤ 4611686018427387904 → (i ≤ 64 → x = sm (nth 0 w) i) →
    ∃ S, F.money_Split_l3 K k w x w (w.length : Int) (i : Int) c m = some (Sum.inl (w, S, c, m)) ∧ (w.length ≤ 64 → S = sm (nth 0 w) w.length)
  | 0, i, x, _, hk, _, _ => by omega
  | k + 1, i, x, hi, hk, hx, hs => by
    rw [F.money_Split_l3]
    simp only [bi_eq, Int.toNat_natCast]
    by_cases e : i = w.length
    · rw [if_neg (by simp <;> omega)]
      exact ⟨x, rfl, fun h => by rw [hs (by omega), e]⟩
    · have hi' : i < w.length := by omega
      have := hw i hi'
      rw [if_pos (by simp <;> omega), if_pos (by simp <;> omega), if_neg (by simp <;> omega), if_neg (by simp <;> omega), iw (x := x + nth 0 w i) (by omega) (by omega), iw (x := (i : Int) + 1) (by omega) (by omega), show (i : Int) + 1 = ((i + 1 : Nat) : Int) by omega]
      refine l3_good hw hl k (i + 1) _ hi' (by omega) (by split <;> omega) fun h => ?_
      have b := (sm_bd (f := nth 0 w) (A := 1000000000) (n := i) fun q hq => hw q (by omega)).2
      have : (i : Int) * 1000000000 ≤ 64000000000 := by omega
      have := hs (by omega)
      rw [if_neg (by omega), sm]
      omega
/-- A share's quotient, its rest, its row. -/
def sq (T S : Int) (w : List Int) (i : Nat) : Int := T * nth 0 w i / S
def sr (T S : Int) (w : List Int) (i : Nat) : Int := T * nth 0 w i % S
def srow (T S : Int) (w : List Int) (i : Nat) : Rw := [(i : Int), sr T S w i, sq T S w i]
/-- What a split is of: an amount, its weights, their sum. -/
structure Spl (T S : Int) (w : List Int) : Prop where
  wok : Wok w
  len : w.length ≤ 64
  sum : S = sm (nth 0 w) w.length
  pos : 0 < S
  tot : 0 ≤ T ∧ T ≤ 10000000000000
theorem Spl.le {T S : Int} {w : List Int} (h : Spl T S w) {i : Nat} (hi : i < w.length) : nth 0 w i ≤ S := by
  rw [h.sum]; exact sm_one (fun j hj => (h.wok j hj).1) hi
theorem Spl.top {T S : Int} {w : List Int} (h : Spl T S w) : S ≤ 64000000000 := by
  have := (sm_bd (f := nth 0 w) (A := 1000000000) (n := w.length) h.wok).2
  have := h.len; have := h.sum
  omega
theorem Spl.tw {T S : Int} {w : List Int} (h : Spl T S w) {i : Nat} (hi : i < w.length) : 0 ≤ T * nth 0 w i ∧ T * nth 0 w i ≤ 10000000000000000000000 ∧ T * nth 0 w i ≤ T * S ∧ T * nth 0 w i ≤ 10000000000000 * nth 0 w i :=
  ⟨Int.mul_nonneg h.tot.1 (h.wok i hi).1, (mul_le h.tot.1 h.tot.2 (h.wok i hi).1 (h.wok i hi).2).2, Int.mul_le_mul_of_nonneg_left (h.le hi) h.tot.1, Int.mul_le_mul_of_nonneg_right h.tot.2 (h.wok i hi).1⟩
theorem Spl.sq {T S : Int} {w : List Int} (h : Spl T S w) {i : Nat} (hi : i < w.length) : 0 ≤ sq T S w i ∧ sq T S w i ≤ T := by
  have a := h.tw hi
  refine ⟨Int.ediv_nonneg a.1 (Int.le_of_lt h.pos), ?_⟩
  have : T * nth 0 w i / S < T + 1 := by
    refine Int.ediv_lt_of_lt_mul h.pos ?_
    rw [Int.add_mul]
    have := h.pos
    omega
  unfold Wide.sq
  omega
theorem Spl.sr {T S : Int} {w : List Int} (h : Spl T S w) (i : Nat) : 0 ≤ sr T S w i ∧ sr T S w i < S :=
  ⟨Int.emod_nonneg _ (by have := h.pos; omega), Int.emod_lt_of_pos _ h.pos⟩
theorem Spl.sums {T S : Int} {w : List Int} (h : Spl T S w) {i : Nat} (hi : i ≤ w.length) : 0 ≤ sm (Wide.sq T S w) i ∧ sm (Wide.sq T S w) i ≤ 640000000000000 := by
  have := sm_bd (f := Wide.sq T S w) (A := 10000000000000) (n := i) fun q hq => ⟨(h.sq (by omega)).1, by have := h.sq (i := q) (by omega); have := h.tot; omega⟩
  have := h.len
  omega
theorem l21_ok {K : Nat} (hK : 3 ≤ K) {T S c m : Int} {w : List Int} (h : Spl T S w) : ∀ (k i : Nat) (q : List Rw), i ≤ w.length → w.length - i < k → q.length = w.length → (∀ j, j < i → nth [] q j = srow T S w j) →
    ∃ q', F.money_Split_l21 K k w S T (T - sm (sq T S w) i) q w (w.length : Int) (i : Int) c m = some (w, T - sm (sq T S w) w.length, q', c, m) ∧ q'.length = w.length ∧ ∀ j, j < w.length → nth [] q' j = srow T S w j
  | 0, i, q, _, hk, _, _ => by omega
  | k + 1, i, q, hi, hk, hq, hj => by
    have hn := h.len
    rw [F.money_Split_l21]
    simp only [bi_eq, Int.toNat_natCast]
    by_cases e : i = w.length
    · rw [if_neg (by simp <;> omega)]
      exact ⟨q, by rw [e], hq, by rw [← e]; exact hj⟩
    · have hi' : i < w.length := by omega
      have a1 := h.wok i hi'
      have a2 := h.tw hi'
      have a3 := h.pos
      have a4 := h.top
      have a5 := h.tot
      have a6 := h.le hi'
      have a7 := h.sq hi'
      have a8 := h.sr i
      have a9 := h.sums hi
      rw [if_pos (by simp <;> omega), if_pos (by simp <;> omega), uw (x := T) (by omega) (by omega), uw (x := nth 0 w i) (by omega) (by omega), mul64_val K ⟨by omega, by omega⟩ ⟨by omega, by omega⟩, Option.bind_some, uw (x := S) (by omega) (by omega)]
      simp only
      rw [div64_val hK ⟨by omega, by omega⟩ ⟨by omega, by omega⟩ ⟨by omega, by omega⟩, Option.bind_some]
      have e1 : T * nth 0 w i / 18446744073709551616 * 18446744073709551616 + T * nth 0 w i % 18446744073709551616 = T * nth 0 w i := by omega
      simp only [e1]
      rw [if_pos (by simp <;> omega)]
      have e2 : T * nth 0 w i / S = sq T S w i := rfl
      have e3 : T * nth 0 w i % S = sr T S w i := rfl
      rw [e2, e3, iw (x := sq T S w i) (by omega) (by omega), iw (x := T - sm (sq T S w) i - sq T S w i) (by omega) (by omega), iw (x := (i : Int) + 1) (by omega) (by omega), show (i : Int) + 1 = ((i + 1 : Nat) : Int) by omega, show T - sm (sq T S w) i - sq T S w i = T - sm (sq T S w) (i + 1) by rw [sm]; omega]
      refine l21_ok hK h k (i + 1) _ hi' (by omega) (by rw [List.length_set, hq]) fun j j1 => ?_
      rw [nth_set]
      by_cases d : j = i
      · rw [if_pos ⟨d, by omega⟩, d]; rfl
      · rw [if_neg (fun x => d x.1)]; exact hj j (by omega)
/-- The order of the shares: the greater rest first, then the lower place. -/
def LtR (T S : Int) (w : List Int) (i j : Nat) : Prop := sr T S w j < sr T S w i ∨ (sr T S w i = sr T S w j ∧ i < j)
structure Ordn (T S : Int) (w : List Int) (σ : Nat → Nat) : Prop where
  rng : ∀ t, t < w.length → σ t < w.length
  ord : ∀ s t, s < t → t < w.length → LtR T S w (σ s) (σ t)
  onto : ∀ j, j < w.length → ∃ t, t < w.length ∧ σ t = j
theorem Ordn.inj {T S : Int} {w : List Int} {σ : Nat → Nat} (h : Ordn T S w σ) {s t : Nat} (hs : s < w.length) (ht : t < w.length) (e : σ s = σ t) : s = t := by
  rcases Nat.lt_trichotomy s t with c | c | c
  · have := h.ord s t c ht; unfold LtR at this; rw [e] at this; omega
  · exact c
  · have := h.ord t s c hs; unfold LtR at this; rw [e] at this; omega
/-- There is but one such order; and a scale does not change it. -/
theorem Ordn.unique {T S T' S' : Int} {w w' : List Int} {σ τ : Nat → Nat} (h : Ordn T S w σ) (k : Ordn T' S' w' τ) (hl : w'.length = w.length) (hr : ∀ i j, i < w.length → j < w.length → (LtR T S w i j ↔ LtR T' S' w' i j)) :
    ∀ t, t < w.length → σ t = τ t := by
  intro t
  induction t using Nat.strongRecOn with
  | _ t ih =>
    intro ht
    by_cases e : σ t = τ t
    · exact e
    · exfalso
      obtain ⟨u, u1, u2⟩ := h.onto (τ t) (by rw [← hl]; exact k.rng t (by omega))
      obtain ⟨v, v1, v2⟩ := k.onto (σ t) (by rw [hl]; exact h.rng t ht)
      have hu : t < u := by
        rcases Nat.lt_trichotomy u t with c | c | c
        · have := ih u c u1
          have : u = t := k.inj (by omega) (by omega) (by rw [← this, u2])
          omega
        · subst c; exact absurd u2 e
        · exact c
      have hv : t < v := by
        rcases Nat.lt_trichotomy v t with c | c | c
        · have := ih v c (by omega)
          have : v = t := h.inj (by omega) ht (by rw [this, v2])
          omega
        · subst c; exact absurd v2.symm e
        · exact c
      have a := h.ord t u hu u1
      have b := k.ord t v hv v1
      rw [u2] at a
      rw [v2] at b
      rw [← hr _ _ (by rw [← hl]; exact k.rng t (by omega)) (h.rng t ht)] at b
      unfold LtR at a b
      omega
/-- With its sign. -/
def sg (m x : Int) : Int := if m < 0 then -x else x
/-- What share t gets. -/
def part (T S : Int) (w : List Int) (m : Int) (σ : Nat → Nat) (t : Nat) : Int := sg m (sq T S w (σ t) + if (t : Int) < T - sm (sq T S w) w.length then 1 else 0)
theorem l31_ok {K : Nat} {T S c m : Int} {w : List Int} (h : Spl T S w) {σ : Nat → Nat} (ho : Ordn T S w σ) {q : List Rw} (hq : q.length = w.length) (hs : ∀ t, t < w.length → nth [] q t = srow T S w (σ t)) :
    ∀ (k i : Nat) (o : List Rw), i ≤ w.length → w.length - i < k → o.length = w.length → (∀ t, t < i → nth [] o (σ t) = [c, part T S w m σ t]) →
    ∃ o', F.money_Split_l31 K k (T - sm (sq T S w) w.length) o q (q.length : Int) (i : Int) c m = some o' ∧ o'.length = w.length ∧ ∀ t, t < w.length → nth [] o' (σ t) = [c, part T S w m σ t]
  | 0, i, o, _, hk, _, _ => by omega
  | k + 1, i, o, hi, hk, hl, hj => by
    have hn := h.len
    rw [F.money_Split_l31]
    simp only [bi_eq, Int.toNat_natCast]
    by_cases e : i = w.length
    · rw [if_neg (by simp <;> omega)]
      exact ⟨o, rfl, hl, by rw [← e]; exact hj⟩
    · have hi' : i < w.length := by omega
      have a7 := h.sq (ho.rng i hi')
      have a5 := h.tot
      have a8 := ho.rng i hi'
      rw [if_pos (by simp <;> omega), if_pos (by simp <;> omega)]
      have n0 : nth 0 (srow T S w (σ i)) 0 = (σ i : Int) := rfl
      have n2 : nth 0 (srow T S w (σ i)) 2 = sq T S w (σ i) := rfl
      simp only [hs i hi', n0, n2, Int.toNat_natCast]
      have e0 : IntKind.i64.wrap ((i : Int) + 1) = ((i + 1 : Nat) : Int) := by rw [iw (by omega) (by omega)]; omega
      have e1 : IntKind.i64.wrap (sq T S w (σ i) + 1) = sq T S w (σ i) + 1 := iw (by omega) (by omega)
      have e2 : IntKind.i64.wrap (0 - (sq T S w (σ i) + 1)) = 0 - (sq T S w (σ i) + 1) := iw (by omega) (by omega)
      have e3 : IntKind.i64.wrap (0 - sq T S w (σ i)) = 0 - sq T S w (σ i) := iw (by omega) (by omega)
      have cond : (decide (0 ≤ (σ i : Int)) && decide ((σ i : Int) < (o.length : Int))) = true := by simp; omega
      simp only [e0, e1, e2, e3, cond, if_true]
      have go : ∀ v, v = part T S w m σ i → ∃ o', F.money_Split_l31 K k (T - sm (sq T S w) w.length) (o.set (σ i) [c, v]) q (q.length : Int) ((i + 1 : Nat) : Int) c m = some o' ∧ o'.length = w.length ∧ ∀ t, t < w.length → nth [] o' (σ t) = [c, part T S w m σ t] := fun v hv => by
        refine l31_ok h ho hq hs k (i + 1) _ hi' (by omega) (by rw [List.length_set, hl]) fun t ht => ?_
        rw [nth_set]
        by_cases d : t = i
        · rw [d, if_pos ⟨rfl, by omega⟩, hv]
        · rw [if_neg fun x => d (ho.inj (by omega) hi' x.1)]; exact hj t (by omega)
      by_cases b1 : (i : Int) < T - sm (sq T S w) w.length
      · rw [if_pos (by simpa using b1)]
        by_cases b2 : m < 0
        · rw [if_pos (by simpa using b2)]
          exact go _ (by unfold part sg; rw [if_pos b2, if_pos b1]; omega)
        · rw [if_neg (by simpa using b2)]
          exact go _ (by unfold part sg; rw [if_neg b2, if_pos b1])
      · rw [if_neg (by simpa using b1)]
        by_cases b2 : m < 0
        · rw [if_pos (by simpa using b2)]
          exact go _ (by unfold part sg; rw [if_pos b2, if_neg b1]; omega)
        · rw [if_neg (by simpa using b2)]
          exact go _ (by unfold part sg; rw [if_neg b2, if_neg b1]; omega)
/-- An amount's size. -/
def mag (m : Int) : Int := if m < 0 then -m else m
/-- The sorted rows tell the order. -/
theorem ordn_of {T S : Int} {w : List Int} {l0 l' : List Rw} (h0 : l0.length = w.length) (hr : ∀ j, j < w.length → nth [] l0 j = srow T S w j) (hp : l'.Perm l0) (hs : Srt l' 0 l0.length) :
    Ordn T S w (fun t => (nth 0 (nth [] l' t) 0).toNat) ∧ ∀ t, t < w.length → nth [] l' t = srow T S w (nth 0 (nth [] l' t) 0).toNat := by
  have hl : l'.length = w.length := by rw [hp.length_eq, h0]
  have key : ∀ t, t < w.length → ∃ j, j < w.length ∧ nth [] l' t = srow T S w j := fun t ht => by
    have m1 : nth [] l' t ∈ l' := by rw [nth_get l' (by omega)]; exact List.getElem_mem _
    obtain ⟨j, j1, j2⟩ := List.getElem_of_mem (hp.mem_iff.1 m1)
    refine ⟨j, by omega, ?_⟩
    rw [← j2, ← hr j (by omega), nth_get l0 j1]
  have n0 : ∀ j, (nth 0 (srow T S w j) 0).toNat = j := fun j => rfl
  have rows : ∀ t, t < w.length → nth [] l' t = srow T S w (nth 0 (nth [] l' t) 0).toNat := fun t ht => by
    obtain ⟨j, j1, j2⟩ := key t ht
    rw [j2, n0]
  refine ⟨⟨fun t ht => ?_, fun s t hst ht => ?_, fun j hj => ?_⟩, rows⟩
  · obtain ⟨j, j1, j2⟩ := key t ht
    show (nth 0 (nth [] l' t) 0).toNat < _
    rw [j2, n0]; exact j1
  · have := hs s t (Nat.zero_le _) hst (by omega)
    obtain ⟨a, a1, a2⟩ := key s (by omega)
    obtain ⟨b, b1, b2⟩ := key t ht
    show LtR T S w (nth 0 (nth [] l' s) 0).toNat (nth 0 (nth [] l' t) 0).toNat
    rw [a2, b2] at this ⊢
    rw [n0, n0]
    have c1 : nth 0 (srow T S w a) 0 = (a : Int) := rfl
    have c2 : nth 0 (srow T S w b) 0 = (b : Int) := rfl
    have c3 : nth 0 (srow T S w a) 1 = sr T S w a := rfl
    have c4 : nth 0 (srow T S w b) 1 = sr T S w b := rfl
    unfold Lt at this
    rw [c1, c2, c3, c4] at this
    unfold LtR
    omega
  · have m1 : srow T S w j ∈ l0 := by rw [← hr j hj, nth_get l0 (by omega)]; exact List.getElem_mem _
    obtain ⟨t, t1, t2⟩ := List.getElem_of_mem (hp.mem_iff.2 m1)
    refine ⟨t, by omega, ?_⟩
    show (nth 0 (nth [] l' t) 0).toNat = j
    rw [nth_get l' t1, t2, n0]
theorem split_len {K : Nat} {c m : Int} {w : List Int} (hK : w.length < K) (hl : w.length ≤ 9223372036854775807) (hw : Wok w) (hn : w.length = 0 ∨ 64 < w.length) : F.money_Split K c m w = some ([], 2) := by
  obtain ⟨S, e', _⟩ := l3_good (K := K) (c := c) (m := m) hw hl K 0 0 (by omega) (by omega) (by omega) (fun _ => rfl)
  have e : F.money_Split_l3 K K w 0 w (w.length : Int) 0 c m = _ := e'
  unfold F.money_Split
  rw [e]
  simp only [casO, bi_eq, Option.bind_some]
  rcases hn with h | h
  · rw [if_pos (by simp [h])]
  · rw [if_neg (by simpa using (show ¬ ((w.length : Int) = 0) by omega)), if_pos (by simp <;> omega)]
theorem split_arg {K : Nat} {c m : Int} {w : List Int} (hK : w.length < K) (hl : w.length ≤ 9223372036854775807) (hw : ¬ Wok w) : F.money_Split K c m w = some ([], 1) := by
  have : ∃ j, 0 ≤ j ∧ j < w.length ∧ ¬ (0 ≤ nth 0 w j ∧ nth 0 w j ≤ 1000000000) := by
    refine Classical.byContradiction fun h => hw fun i hi => Classical.byContradiction fun k => h ⟨i, Nat.zero_le _, hi, k⟩
  have e : F.money_Split_l3 K K w 0 w (w.length : Int) 0 c m = _ := l3_bad (K := K) (c := c) (m := m) hl K 0 0 this (by omega) (by omega)
  unfold F.money_Split
  rw [e]
  rfl
theorem split_form {K : Nat} {c m : Int} {w : List Int} (hK : w.length < K) (hw : Wok w) (hn : 1 ≤ w.length ∧ w.length ≤ 64) (hf : ¬ (Cu c ∧ Am m)) : F.money_Split K c m w = some ([], 3) := by
  obtain ⟨S, e', _⟩ := l3_good (K := K) (c := c) (m := m) hw (by omega) K 0 0 (by omega) (by omega) (by omega) (fun _ => rfl)
  have e : F.money_Split_l3 K K w 0 w (w.length : Int) 0 c m = _ := e'
  unfold F.money_Split
  rw [e]
  simp only [casO, bi_eq, Option.bind_some]
  rw [if_neg (by simpa using (show ¬ ((w.length : Int) = 0) by omega)), if_neg (by simp <;> omega), mcheck_ok, if_neg hf, Option.bind_some, if_pos (by decide)]
theorem split_zero {K : Nat} {c m : Int} {w : List Int} (hK : w.length < K) (hw : Wok w) (hn : 1 ≤ w.length ∧ w.length ≤ 64) (hf : Cu c ∧ Am m) (hz : sm (nth 0 w) w.length = 0) : F.money_Split K c m w = some ([], 5) := by
  obtain ⟨S, e', hS⟩ := l3_good (K := K) (c := c) (m := m) hw (by omega) K 0 0 (by omega) (by omega) (by omega) (fun _ => rfl)
  have e : F.money_Split_l3 K K w 0 w (w.length : Int) 0 c m = _ := e'
  unfold F.money_Split
  rw [e]
  simp only [casO, bi_eq, Option.bind_some]
  rw [if_neg (by simpa using (show ¬ ((w.length : Int) = 0) by omega)), if_neg (by simp <;> omega), mcheck_ok, if_pos hf, Option.bind_some, if_neg (by decide), if_pos (by rw [hS hn.2, hz]; decide)]
theorem split_ok {K : Nat} {c m : Int} {w : List Int} (hK : 200 < K) (hf : Cu c ∧ Am m) (h : Spl (mag m) (sm (nth 0 w) w.length) w) :
    ∃ σ o, Ordn (mag m) (sm (nth 0 w) w.length) w σ ∧ F.money_Split K c m w = some (o, 0) ∧ o.length = w.length ∧ ∀ t, t < w.length → nth [] o (σ t) = [c, part (mag m) (sm (nth 0 w) w.length) w m σ t] := by
  have hn := h.len
  have hp := h.pos
  have hm := hf.2
  unfold Am at hm
  have n1 : 1 ≤ w.length := by
    rcases Nat.lt_or_ge 0 w.length with c | c
    · exact c
    · rw [show w.length = 0 by omega] at hp; simp [sm] at hp
  obtain ⟨S, e', hS⟩ := l3_good (K := K) (c := c) (m := m) h.wok (by omega) K 0 0 (by omega) (by omega) (by omega) (fun _ => rfl)
  obtain ⟨q, e2, q1, q2⟩ := l21_ok (c := c) (m := m) (show 3 ≤ K by omega) h K 0 (List.replicate w.length (List.replicate 3 0)) (by omega) (by omega) (by simp) (fun j hj => by omega)
  have w3 : W3 q := fun r hr => by
    obtain ⟨j, j1, j2⟩ := List.getElem_of_mem hr
    rw [← j2, ← nth_get q j1, q2 j (by omega)]; rfl
  obtain ⟨l', e3, l1, l2, l3⟩ := stable_ok w3 (by omega) hK (fun s t st ht => by
    rw [q2 s (by omega), q2 t (by omega)]
    show (s : Int) < (t : Int)
    omega)
  obtain ⟨ho, hrow⟩ := ordn_of q1 q2 l2 l3
  obtain ⟨o, e4, o1, o2⟩ := l31_ok (K := K) (c := c) (m := m) h ho (by omega) hrow K 0 (List.replicate w.length (List.replicate 2 0)) (by omega) (by omega) (by simp) (fun t ht => by omega)
  refine ⟨_, o, ho, ?_, o1, o2⟩
  have e : F.money_Split_l3 K K w 0 w (w.length : Int) 0 c m = _ := e'
  rw [hS hn] at e
  unfold F.money_Split
  rw [e]
  simp only [casO, bi_eq, Option.bind_some]
  rw [if_neg (by simpa using (show ¬ ((w.length : Int) = 0) by omega)), if_neg (by simp <;> omega), mcheck_ok, if_pos hf, Option.bind_some, if_neg (by decide), if_neg (by simp <;> omega)]
  have e0 : mag m - sm (sq (mag m) (sm (nth 0 w) w.length) w) 0 = mag m := by simp [sm]
  rw [e0] at e2
  have e2 : F.money_Split_l21 K K w (sm (nth 0 w) w.length) (mag m) (mag m) (List.replicate w.length (List.replicate 3 0)) w (w.length : Int) 0 c m = _ := e2
  have e4 : F.money_Split_l31 K K (mag m - sm (sq (mag m) (sm (nth 0 w) w.length) w) w.length) (List.replicate w.length (List.replicate 2 0)) l' (l'.length : Int) 0 c m = _ := e4
  by_cases b : m < 0
  · have em : IntKind.i64.wrap (0 - m) = mag m := by unfold mag; rw [if_pos b, iw (by omega) (by omega)]; omega
    simp only [em, Int.toNat_natCast]
    rw [if_pos (by simpa using b), if_pos (by simp <;> omega), e2, Option.bind_some]
    simp only
    rw [e3, Option.bind_some, if_pos (by simp <;> omega), e4, Option.bind_some]
  · have em : mag m = m := by unfold mag; rw [if_neg b]
    rw [em] at e2 e4
    simp only [Int.toNat_natCast]
    rw [if_neg (by simpa using b), if_pos (by simp <;> omega), e2, Option.bind_some]
    simp only
    rw [e3, Option.bind_some, if_pos (by simp <;> omega), e4, Option.bind_some]
end Go.Proofs.Ytfeifhlnidkbbaa.Wide
