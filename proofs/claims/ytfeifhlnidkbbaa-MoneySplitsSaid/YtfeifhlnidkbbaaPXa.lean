/- Several of my texts in one: plain facts about the printed functions. Conditions: none here. -/
import Derived.Test.YtfeifhlnidkbbaaPWa
import Derived.Test.YtfeifhlnidkbbaaFB
set_option linter.unusedVariables false
set_option linter.unusedSimpArgs false
namespace Go.Proofs.Ytfeifhlnidkbbaa.Wide
open Go Go.RowKit Go.Proofs.Ytfeifhlnidkbbaa.Vm
/-- The order of two numbers. -/
def cmp3 (x y : Int) : Int := if x < y then -1 else if y < x then 1 else 0
end Go.Proofs.Ytfeifhlnidkbbaa.Wide

namespace Go.Proofs.Ytfeifhlnidkbbaa.Wide
open Go Go.RowKit Go.Proofs.Ytfeifhlnidkbbaa.Vm
end Go.Proofs.Ytfeifhlnidkbbaa.Wide

namespace Go.Proofs.Ytfeifhlnidkbbaa.Wide
open Go Go.RowKit Go.Proofs.Ytfeifhlnidkbbaa.Vm
end Go.Proofs.Ytfeifhlnidkbbaa.Wide

set_option exponentiation.threshold 400
namespace Go.Proofs.Ytfeifhlnidkbbaa.Wide
open Go Go.RowKit Go.Proofs.Ytfeifhlnidkbbaa.Vm
theorem pow_le {a b : Nat} (h : a ≤ b) : (2 : Int) ^ a ≤ 2 ^ b := by exact_mod_cast Nat.pow_le_pow_right (n := 2) (by decide) h
/-- What holds at the head of the division's loop: A is q B + R. -/
def Inv (A B n R q : Int) : Prop := A = q * B + R ∧ 0 ≤ R ∧ 0 ≤ q ∧ (n < 0 → R < B) ∧ (0 ≤ n → R < B * 2 ^ (n.toNat + 1) ∧ B * 2 ^ n.toNat < TOP ∧ ∃ k, q = 2 ^ (n.toNat + 1) * k)
theorem inv_end {A B n R q : Int} (h : Inv A B n R q) (hB : 0 < B) (hn : n < 0) : q = A / B ∧ R = A % B := by
  obtain ⟨e, r0, q0, h1, _⟩ := h
  have := h1 hn
  have d := Int.ediv_emod_unique (a := A) (b := B) (r := R) (q := q) hB
  have := d.2 ⟨by rw [Int.mul_comm]; omega, r0, this⟩
  exact ⟨this.1.symm, this.2.symm⟩
end Go.Proofs.Ytfeifhlnidkbbaa.Wide

namespace Go.Proofs.Ytfeifhlnidkbbaa.Wide
open Go Go.RowKit Go.Proofs.Ytfeifhlnidkbbaa.Vm
/-- The coefficient of a decimal, and its size. -/
def cf (hi lo : Int) : Int := hi * 18446744073709551616 + lo
def I64 (x : Int) : Prop := -9223372036854775808 ≤ x ∧ x ≤ 9223372036854775807
instance (x : Int) : Decidable (I64 x) := by unfold I64; infer_instance
def p10z (k : Int) : Int := 10 ^ k.toNat
end Go.Proofs.Ytfeifhlnidkbbaa.Wide

namespace Go.Proofs.Ytfeifhlnidkbbaa.Wide
open Go Go.RowKit Go.Proofs.Ytfeifhlnidkbbaa.Vm
end Go.Proofs.Ytfeifhlnidkbbaa.Wide

namespace Go.Proofs.Ytfeifhlnidkbbaa.Wide
open Go Go.RowKit Go.Proofs.Ytfeifhlnidkbbaa.Vm
/-- A decimal in form. -/
def Fm (hi lo sc : Int) : Prop := 0 ≤ sc ∧ sc ≤ 18 ∧ ¬(hi = -9223372036854775808 ∧ lo = 0)
instance (hi lo sc : Int) : Decidable (Fm hi lo sc) := by unfold Fm; infer_instance
/-- Numbers at the greater scale. -/
def up (a0 a1 a2 s : Int) : Int := cf a0 a1 * p10z (s - a2)
end Go.Proofs.Ytfeifhlnidkbbaa.Wide

namespace Go.Proofs.Ytfeifhlnidkbbaa.Wide
open Go Go.RowKit Go.Proofs.Ytfeifhlnidkbbaa.Vm
/-- A scale and a mode. -/
def Wy (s m : Int) : Prop := 0 ≤ s ∧ s ≤ 18 ∧ 0 ≤ m ∧ m ≤ 6
instance (s m : Int) : Decidable (Wy s m) := by unfold Wy; infer_instance
end Go.Proofs.Ytfeifhlnidkbbaa.Wide

namespace Go.Proofs.Ytfeifhlnidkbbaa.Wide
open Go Go.RowKit Go.Proofs.Ytfeifhlnidkbbaa.Vm
end Go.Proofs.Ytfeifhlnidkbbaa.Wide

namespace Go.Proofs.Ytfeifhlnidkbbaa.Wide
open Go Go.RowKit Go.Proofs.Ytfeifhlnidkbbaa.Vm
abbrev B32 : Int := 4294967296
/-- The number that digits are. -/
def vr : List Int → Int
  | [] => 0
  | x :: l => x + B32 * vr l
def Dg (l : List Int) : Prop := ∀ x ∈ l, 0 ≤ x ∧ x < B32
/-- The digits of a number from 0 on. -/
def rl (n : Int) : List Int := if h : 0 < n then n % B32 :: rl (n / B32) else []
termination_by n.toNat
decreasing_by unfold B32; omega
theorem rl_pos {n : Int} (h : 0 < n) : rl n = n % B32 :: rl (n / B32) := by rw [rl, dif_pos h]
theorem rl_zero {n : Int} (h : n ≤ 0) : rl n = [] := by rw [rl, dif_neg (by omega)]
theorem vr_nonneg : ∀ {l : List Int}, Dg l → 0 ≤ vr l
  | [], _ => by simp [vr]
  | x :: l, h => by
    have h1 := h x (by simp)
    have h2 := vr_nonneg (l := l) fun y hy => h y (by simp [hy])
    rw [vr]
    unfold B32 at *
    omega
theorem dg_rl (n : Int) : Dg (rl n) := by
  by_cases h : 0 < n
  · rw [rl_pos h]
    intro x hx
    rcases List.mem_cons.1 hx with rfl | hx
    · unfold B32; omega
    · exact dg_rl (n / B32) x hx
  · rw [rl_zero (by omega)]; intro x hx; simp at hx
termination_by n.toNat
decreasing_by unfold B32; omega
theorem vr_rl {n : Int} (h0 : 0 ≤ n) : vr (rl n) = n := by
  by_cases h : 0 < n
  · rw [rl_pos h, vr, vr_rl (n := n / B32) (by unfold B32; omega)]
    unfold B32; omega
  · rw [rl_zero (by omega), vr]; omega
termination_by n.toNat
decreasing_by unfold B32; omega
theorem dg_cons {x : Int} {l : List Int} (h : Dg (x :: l)) : (0 ≤ x ∧ x < B32) ∧ Dg l := ⟨h x (by simp), fun y hy => h y (by simp [hy])⟩
/-- Digits without a nought at the end are the digits of their number. -/
theorem rl_vr : ∀ {l : List Int}, Dg l → l.getLast? ≠ some 0 → rl (vr l) = l
  | [], _, _ => by rw [vr, rl_zero (by decide)]
  | x :: l, h, hn => by
    obtain ⟨hx, hl⟩ := dg_cons h
    have v0 := vr_nonneg hl
    by_cases e : l = []
    · subst e
      have : x ≠ 0 := fun h => hn (by simp [h])
      unfold B32 at hx
      rw [vr, vr, Int.mul_zero, Int.add_zero, rl_pos (by omega), rl_zero (by unfold B32; omega), Int.emod_eq_of_lt (by omega) (by unfold B32; omega)]
    · have hn' : l.getLast? ≠ some 0 := by
        cases l with
        | nil => exact absurd rfl e
        | cons y l => simpa using hn
      have ih := rl_vr hl hn'
      have : 0 < vr l := by
        rcases Int.lt_or_eq_of_le v0 with h | h
        · exact h
        · rw [← h, rl_zero (by decide)] at ih; exact absurd ih.symm e
      unfold B32 at hx
      rw [vr, rl_pos (by unfold B32; omega)]
      rw [show (x + B32 * vr l) % B32 = x by unfold B32; omega, show (x + B32 * vr l) / B32 = vr l by unfold B32; omega, ih]
theorem vr_take : ∀ (l : List Int) (n : Nat), n < l.length → vr (l.take (n + 1)) = vr (l.take n) + nth 0 l n * B32 ^ n
  | [], n, h => by simp at h
  | x :: l, 0, h => by simp [vr, nth]
  | x :: l, n + 1, h => by
    have ih := vr_take l n (by simpa using h)
    simp only [List.take_succ_cons, vr, nth, ih, Int.pow_succ]
    rw [Int.mul_add, Int.mul_left_comm, Int.mul_comm (B32 ^ n) B32]
    omega
theorem nth_eq_get {l : List Int} {n : Nat} (h : n < l.length) : nth 0 l n = l[n] := by
  induction l generalizing n with
  | nil => simp at h
  | cons x l ih => cases n with
    | zero => rfl
    | succ n => simp only [nth, List.getElem_cons_succ]; exact ih (by simpa using h)
theorem norm_loop {K : Nat} (l : List Int) (hd : Dg l) (hl : l.length < 4294967296) : ∀ (k n : Nat), n < k → n ≤ l.length → vr (l.take n) = vr l →
    ∃ m : Nat, F.ref01_Norm_l2 K k l n = some (l, (m : Int)) ∧ m ≤ l.length ∧ l.take m = rl (vr l)
  | 0, n, h, _, _ => by omega
  | k + 1, n, h, hn, hv => by
    rw [F.ref01_Norm_l2]
    cases n with
    | zero =>
      refine ⟨0, by simp, by omega, ?_⟩
      rw [← hv]; simp [vr, rl_zero]
    | succ n =>
      have e := vr_take l n hn
      have c1 : ((n + 1 : Nat) : Int) > 0 := by omega
      have c2 : IntKind.i64.wrap (((n + 1 : Nat) : Int) - 1) = (n : Int) := by rw [iw (by omega) (by omega)]; omega
      have c3 : (n : Int) < (l.length : Int) := by omega
      rw [c2]
      by_cases z : nth 0 l n = 0
      · obtain ⟨m, g1, g2, g3⟩ := norm_loop l hd hl k n (by omega) (by omega) (by rw [← hv, e, z]; simp)
        refine ⟨m, ?_, g2, g3⟩
        simp [c3, z, g1]
        omega
      · refine ⟨n + 1, ?_, hn, ?_⟩
        · simp [c3, z]
        · have hlast : (l.take (n + 1)).getLast? ≠ some 0 := by
            rw [List.getLast?_eq_getElem?, List.length_take, Nat.min_eq_left hn, Nat.add_sub_cancel, List.getElem?_take, if_pos (by omega), List.getElem?_eq_getElem (by omega)]
            rw [nth_eq_get (by omega)] at z
            simpa using z
          rw [← hv, rl_vr (fun x hx => hd x (List.mem_of_mem_take hx)) hlast]
theorem norm_ok {K : Nat} {l : List Int} (hd : Dg l) (hK : l.length < K) (hl : l.length < 4294967296) : F.ref01_Norm K l = some (rl (vr l)) := by
  obtain ⟨m, h1, h2, h3⟩ := norm_loop (K := K) l hd hl K l.length hK (Nat.le_refl _) (by simp)
  have c : (m : Int) ≤ (l.length : Int) := by omega
  unfold F.ref01_Norm
  rw [h1]
  simp [c, h3]
theorem word_ok {K : Nat} (hK : 3 ≤ K) {x : Int} (h : Word x) : F.ref01_Word K x = some (rl x) := by
  unfold Word at h
  unfold F.ref01_Word
  rw [tm _ (by omega), td _ (by omega), uw (by omega) (by omega)]
  rw [norm_ok (by intro y hy; unfold B32; simp at hy; omega) (by simp; omega) (by simp)]
  simp only [vr, Option.bind_some]
  rw [show x % 4294967296 + B32 * (x / 4294967296 + B32 * 0) = x by unfold B32; omega]
end Go.Proofs.Ytfeifhlnidkbbaa.Wide

namespace Go.Proofs.Ytfeifhlnidkbbaa.Wide
open Go Go.RowKit Go.Proofs.Ytfeifhlnidkbbaa.Vm
theorem nth_out {l : List Int} {n : Nat} (h : l.length ≤ n) : nth 0 l n = 0 := by
  induction l generalizing n with
  | nil => rfl
  | cons x l ih => cases n with
    | zero => simp at h
    | succ n => exact ih (by simpa using h)
theorem nth_bd {l : List Int} (hd : Dg l) (n : Nat) : 0 ≤ nth 0 l n ∧ nth 0 l n < B32 := by
  by_cases h : n < l.length
  · rw [nth_eq_get h]; exact hd _ (List.getElem_mem h)
  · rw [nth_out (by omega)]; unfold B32; omega
theorem vr_take' (l : List Int) (n : Nat) : vr (l.take (n + 1)) = vr (l.take n) + nth 0 l n * B32 ^ n := by
  by_cases h : n < l.length
  · exact vr_take l n h
  · rw [nth_out (by omega), List.take_of_length_le (by omega), List.take_of_length_le (by omega)]; simp
theorem vr_append : ∀ (l : List Int) (x : Int), vr (l ++ [x]) = vr l + x * B32 ^ l.length
  | [], x => by simp [vr]
  | y :: l, x => by
    have ih := vr_append l x
    simp only [List.cons_append, vr, ih, List.length_cons, Int.pow_succ]
    rw [Int.mul_add, Int.mul_left_comm, Int.mul_comm (B32 ^ l.length) B32]
    omega
theorem dg_append {l : List Int} {x : Int} (h : Dg l) (h0 : 0 ≤ x) (h1 : x < B32) : Dg (l ++ [x]) := by
  intro y hy
  rcases List.mem_append.1 hy with hy | hy
  · exact h y hy
  · simp at hy; subst hy; exact ⟨h0, h1⟩
theorem dm (t P : Int) : t % B32 * P + t / B32 * (P * B32) = t * P := by
  have e := Int.emod_add_mul_ediv t B32
  have : t * P = (t % B32 + B32 * (t / B32)) * P := by rw [e]
  rw [this, Int.add_mul, Int.mul_comm B32, Int.mul_assoc (t / B32) B32 P, Int.mul_comm P B32]
theorem plus_step {K k : Nat} {l0 l1 l5 : List Int} {c : Int} {i : Nat} (d0 : Dg l0) (d1 : Dg l1) (c0 : 0 ≤ c) (c1 : c ≤ 1) (hi : i < 1000000) (h5 : l5.length = i) :
    F.ref01_Plus_l4 K (k + 1) l0 l1 l5 c i = if (i < l0.length ∨ i < l1.length) ∨ 0 < c then F.ref01_Plus_l4 K k l0 l1 (l5 ++ [(c + nth 0 l0 i + nth 0 l1 i) % B32]) ((c + nth 0 l0 i + nth 0 l1 i) / B32) ((i + 1 : Nat) : Int) else some l5 := by
  have b0 := nth_bd d0 i
  have b1 := nth_bd d1 i
  have w1 : IntKind.u64.wrap (c + nth 0 l0 i) = c + nth 0 l0 i := uw (by omega) (by unfold B32 at *; omega)
  have w2 : IntKind.u64.wrap (c + nth 0 l0 i + nth 0 l1 i) = c + nth 0 l0 i + nth 0 l1 i := uw (by omega) (by unfold B32 at *; omega)
  have w3 : IntKind.u64.wrap (c + nth 0 l1 i) = c + nth 0 l1 i := uw (by omega) (by unfold B32 at *; omega)
  have wi1 : IntKind.i64.wrap ((i : Int) + 1) = (i : Int) + 1 := iw (by omega) (by omega)
  have T : ∀ t : Int, 0 ≤ t → t < 18446744073709551616 → t.tmod 4294967296 = t % B32 ∧ IntKind.u64.wrap (t.tdiv 4294967296) = t / B32 := fun t h0 h1 => by
    rw [tm _ h0, td _ h0, uw (by omega) (by omega)]; exact ⟨rfl, rfl⟩
  have L : l5.length + 1 ≤ 17592186044416 := by omega
  rw [F.ref01_Plus_l4]
  simp only [Int.toNat_natCast]
  rw [show ((i + 1 : Nat) : Int) = (i : Int) + 1 by omega]
  by_cases a : i < l0.length
  · have a' : (i : Int) < (l0.length : Int) := by omega
    by_cases b : i < l1.length
    · have b' : (i : Int) < (l1.length : Int) := by omega
      obtain ⟨t1, t2⟩ := T (c + nth 0 l0 i + nth 0 l1 i) (by omega) (by unfold B32 at *; omega)
      simp [a, a', b, b', L, w1, w2, wi1, t1, t2]
    · have b' : ¬ (i : Int) < (l1.length : Int) := by omega
      have z := nth_out (l := l1) (n := i) (by omega)
      obtain ⟨t1, t2⟩ := T (c + nth 0 l0 i) (by omega) (by unfold B32 at *; omega)
      simp [a, a', b, b', L, w1, wi1, t1, t2, z]
  · have a' : ¬ (i : Int) < (l0.length : Int) := by omega
    have z0 := nth_out (l := l0) (n := i) (by omega)
    by_cases b : i < l1.length
    · have b' : (i : Int) < (l1.length : Int) := by omega
      obtain ⟨t1, t2⟩ := T (c + nth 0 l1 i) (by omega) (by unfold B32 at *; omega)
      simp [a, a', b, b', L, w3, wi1, t1, t2, z0]
    · have b' : ¬ (i : Int) < (l1.length : Int) := by omega
      have z1 := nth_out (l := l1) (n := i) (by omega)
      obtain ⟨t1, t2⟩ := T c (by omega) (by omega)
      by_cases g : 0 < c
      · simp [a, a', b, b', L, g, wi1, t1, t2, z0, z1]
      · simp [a, a', b, b', g]
theorem plus_loop {K : Nat} {l0 l1 : List Int} (d0 : Dg l0) (d1 : Dg l1) {M : Nat} (m0 : l0.length ≤ M) (m1 : l1.length ≤ M) (hM : M < 900000) : ∀ (k i : Nat) (c : Int) (l5 : List Int), l5.length = i → Dg l5 → 0 ≤ c → c ≤ 1 → vr l5 + c * B32 ^ i = vr (l0.take i) + vr (l1.take i) → i ≤ M + 1 → (i = M + 1 → c = 0) → M + 1 - i < k →
    ∃ r, F.ref01_Plus_l4 K k l0 l1 l5 c i = some r ∧ Dg r ∧ r.length ≤ M + 1 ∧ vr r = vr l0 + vr l1
  | 0, i, c, l5, _, _, _, _, _, _, _, h => by omega
  | k + 1, i, c, l5, h5, d5, c0, c1, hv, hi, hc, hk => by
    rw [plus_step d0 d1 c0 c1 (by omega) h5]
    by_cases g : (i < l0.length ∨ i < l1.length) ∨ 0 < c
    · rw [if_pos g]
      have b0 := nth_bd d0 i
      have b1 := nth_bd d1 i
      have hiM : i ≤ M := by
        rcases g with (g | g) | g
        · omega
        · omega
        · have : ¬ i = M + 1 := fun h => by have := hc h; omega
          omega
      refine plus_loop d0 d1 m0 m1 hM k (i + 1) _ _ (by simp [h5]) (dg_append d5 (by unfold B32; omega) (by unfold B32; omega)) (by unfold B32 at *; omega) (by unfold B32 at *; omega) ?_ (by omega) ?_ (by omega)
      · rw [vr_append, vr_take', vr_take', h5, Int.pow_succ]
        have e := dm (c + nth 0 l0 i + nth 0 l1 i) (B32 ^ i)
        rw [Int.add_mul, Int.add_mul] at e
        omega
      · intro h
        have hi : i = M := by omega
        rw [nth_out (l := l0) (by omega), nth_out (l := l1) (by omega)]
        unfold B32; omega
    · rw [if_neg g]
      have hc0 : c = 0 := by omega
      refine ⟨l5, rfl, d5, by omega, ?_⟩
      rw [hc0, List.take_of_length_le (by omega), List.take_of_length_le (by omega)] at hv
      omega
theorem rl_len_le {n : Int} {k : Nat} (h : n < B32 ^ k) : (rl n).length ≤ k := by
  by_cases h0 : 0 < n
  · cases k with
    | zero => simp at h; omega
    | succ k =>
      rw [rl_pos h0, List.length_cons]
      have : n / B32 < B32 ^ k := (Int.ediv_lt_iff_lt_mul (by decide)).2 (by rw [← Int.pow_succ]; exact h)
      have := rl_len_le (n := n / B32) this
      omega
  · rw [rl_zero (by omega)]; simp
termination_by n.toNat
decreasing_by unfold B32; omega
/-- Sums of short numbers. -/
theorem plus_ok {K : Nat} (hK : 2000 ≤ K) {a b : Int} (a0 : 0 ≤ a) (b0 : 0 ≤ b) (ha : (rl a).length ≤ 1000) (hb : (rl b).length ≤ 1000) : F.ref01_Plus K (rl a) (rl b) = some (rl (a + b)) := by
  obtain ⟨r, h1, h2, h3, h4⟩ := plus_loop (K := K) (dg_rl a) (dg_rl b) ha hb (by omega) K 0 0 [] rfl (by intro x hx; simp at hx) (by decide) (by decide) (by simp [vr]) (by omega) (by omega) (by omega)
  have h1' : F.ref01_Plus_l4 K K (rl a) (rl b) [] 0 0 = some r := h1
  rw [vr_rl a0, vr_rl b0] at h4
  unfold F.ref01_Plus
  rw [h1', Option.bind_some, norm_ok h2 (by omega) (by omega), h4, Option.bind_some]
end Go.Proofs.Ytfeifhlnidkbbaa.Wide

namespace Go.Proofs.Ytfeifhlnidkbbaa.Wide
open Go Go.RowKit Go.Proofs.Ytfeifhlnidkbbaa.Vm
theorem vr_lt : ∀ {l : List Int}, Dg l → vr l < B32 ^ l.length
  | [], _ => by simp [vr]
  | x :: l, h => by
    obtain ⟨hx, hl⟩ := dg_cons h
    have ih := vr_lt hl
    simp only [vr, List.length_cons, Int.pow_succ]
    generalize B32 ^ l.length = P at *
    unfold B32 at *
    omega
theorem nth_set {l : List Int} {n : Nat} (x : Int) (h : n < l.length) : nth 0 (l.set n x) n = x := by
  induction l generalizing n with
  | nil => simp at h
  | cons y l ih => cases n with
    | zero => rfl
    | succ n => simp only [List.set_cons_succ, nth]; exact ih (by simpa using h)
theorem take_set {l : List Int} {n : Nat} (x : Int) : (l.set n x).take n = l.take n := by
  rw [List.take_set, List.set_eq_of_length_le (by rw [List.length_take]; omega)]
theorem dg_set {l : List Int} {n : Nat} {x : Int} (h : Dg l) (h0 : 0 ≤ x) (h1 : x < B32) : Dg (l.set n x) := by
  intro y hy
  rcases List.mem_or_eq_of_mem_set hy with hy | rfl
  · exact h y hy
  · exact ⟨h0, h1⟩
theorem dg_zeros (n : Nat) : Dg (List.replicate n 0) := by
  intro x hx
  obtain rfl := List.eq_of_mem_replicate hx
  unfold B32; omega
theorem dn (t P : Int) : t % B32 * P - (1 - t / B32) * (P * B32) = t * P - B32 * P := by
  have e := dm t P
  rw [Int.sub_mul, Int.one_mul, Int.mul_comm B32 P]
  omega
theorem minus_loop {K : Nat} {l0 l1 : List Int} (d0 : Dg l0) (d1 : Dg l1) (hM : l0.length < 900000) : ∀ (k i : Nat) (c : Int) (l5 : List Int), l5.length = l0.length → Dg l5 → 0 ≤ c → c ≤ 1 → vr (l5.take i) - c * B32 ^ i = vr (l0.take i) - vr (l1.take i) → i ≤ l0.length → l0.length - i < k →
    ∃ r c', F.ref01_Minus_l4 K k l0 l1 l5 c l0.length i = some r ∧ Dg r ∧ r.length = l0.length ∧ 0 ≤ c' ∧ vr r - c' * B32 ^ l0.length = vr l0 - vr (l1.take l0.length)
  | 0, i, c, l5, _, _, _, _, _, _, h => by omega
  | k + 1, i, c, l5, h5, d5, c0, c1, hv, hi, hk => by
    rw [F.ref01_Minus_l4]
    simp only [Int.toNat_natCast]
    by_cases g : i < l0.length
    · have g' : (i : Int) < (l0.length : Int) := by omega
      have g5 : (i : Int) < (l5.length : Int) := by omega
      have b0 := nth_bd d0 i
      have b1 := nth_bd d1 i
      have w1 : IntKind.u64.wrap (nth 0 l0 i + 4294967296) = nth 0 l0 i + 4294967296 := uw (by omega) (by unfold B32 at *; omega)
      have w2 : IntKind.u64.wrap (nth 0 l0 i + 4294967296 - c) = nth 0 l0 i + 4294967296 - c := uw (by omega) (by unfold B32 at *; omega)
      have w3 : IntKind.u64.wrap (nth 0 l0 i + 4294967296 - c - nth 0 l1 i) = nth 0 l0 i + 4294967296 - c - nth 0 l1 i := uw (by unfold B32 at *; omega) (by unfold B32 at *; omega)
      have wi1 : IntKind.i64.wrap ((i : Int) + 1) = ((i + 1 : Nat) : Int) := by rw [iw (by omega) (by omega)]; omega
      have T : ∀ t : Int, 0 ≤ t → t < 8589934592 → t.tmod 4294967296 = t % B32 ∧ IntKind.u64.wrap (1 - IntKind.u64.wrap (t.tdiv 4294967296)) = 1 - t / B32 := fun t h0 h1 => by
        rw [tm _ h0, td _ h0, uw (x := t / 4294967296) (by omega) (by omega), uw (by omega) (by omega)]; exact ⟨rfl, rfl⟩
      have go : ∀ y : Int, y = nth 0 l1 i → ∃ r c', F.ref01_Minus_l4 K k l0 l1 (l5.set i ((nth 0 l0 i + 4294967296 - c - y) % B32)) (1 - (nth 0 l0 i + 4294967296 - c - y) / B32) l0.length ((i + 1 : Nat) : Int) = some r ∧ Dg r ∧ r.length = l0.length ∧ 0 ≤ c' ∧ vr r - c' * B32 ^ l0.length = vr l0 - vr (l1.take l0.length) := fun y hy => by
        subst hy
        refine minus_loop d0 d1 hM k (i + 1) _ _ (by simp [h5]) (dg_set d5 (by unfold B32; omega) (by unfold B32; omega)) (by unfold B32 at *; omega) (by unfold B32 at *; omega) ?_ (by omega) (by omega)
        rw [vr_take', vr_take', vr_take', take_set, nth_set _ (by omega), Int.pow_succ]
        have e := dn (nth 0 l0 i + 4294967296 - c - nth 0 l1 i) (B32 ^ i)
        have e2 : (nth 0 l0 i + 4294967296 - c - nth 0 l1 i) * B32 ^ i = nth 0 l0 i * B32 ^ i + 4294967296 * B32 ^ i - c * B32 ^ i - nth 0 l1 i * B32 ^ i := by rw [Int.sub_mul, Int.sub_mul, Int.add_mul]
        rw [e2, show B32 * B32 ^ i = 4294967296 * B32 ^ i from rfl] at e
        omega
      by_cases b : i < l1.length
      · have b' : (i : Int) < (l1.length : Int) := by omega
        obtain ⟨t1, t2⟩ := T (nth 0 l0 i + 4294967296 - c - nth 0 l1 i) (by unfold B32 at *; omega) (by unfold B32 at *; omega)
        have := go _ rfl
        simpa [g', g5, b', w1, w2, w3, wi1, t1, t2] using this
      · have b' : ¬ (i : Int) < (l1.length : Int) := by omega
        have z := nth_out (l := l1) (n := i) (by omega)
        obtain ⟨t1, t2⟩ := T (nth 0 l0 i + 4294967296 - c) (by unfold B32 at *; omega) (by unfold B32 at *; omega)
        have := go 0 z.symm
        rw [Int.sub_zero] at this
        simpa [g', g5, b', w1, w2, wi1, t1, t2] using this
    · obtain rfl : i = l0.length := by omega
      refine ⟨l5, c, by simp, d5, h5, c0, ?_⟩
      rw [List.take_of_length_le (by omega), List.take_of_length_le (l := l0) (by omega)] at hv
      exact hv
theorem rl_len_mono {a b : Int} (h : a ≤ b) : (rl a).length ≤ (rl b).length := by
  by_cases h0 : 0 < a
  · rw [rl_pos h0, rl_pos (n := b) (by omega), List.length_cons, List.length_cons]
    have := rl_len_mono (a := a / B32) (b := b / B32) (by unfold B32; omega)
    omega
  · rw [rl_zero (by omega)]; simp
termination_by a.toNat
decreasing_by unfold B32; omega
theorem minus_ok {K : Nat} (hK : 2000 ≤ K) {a b : Int} (b0 : 0 ≤ b) (hab : b ≤ a) (ha : (rl a).length ≤ 1000) : F.ref01_Minus K (rl a) (rl b) = some (rl (a - b)) := by
  have hlb := rl_len_mono hab
  obtain ⟨r, c', h1, h2, h3, h4, h5⟩ := minus_loop (K := K) (dg_rl a) (dg_rl b) (by omega) K 0 0 (List.replicate (rl a).length 0) (by simp) (dg_zeros _) (by decide) (by decide) (by simp [vr]) (by omega) (by omega)
  have h1' : F.ref01_Minus_l4 K K (rl a) (rl b) (List.replicate (rl a).length 0) 0 (rl a).length 0 = some r := h1
  rw [List.take_of_length_le hlb, vr_rl (by omega), vr_rl b0] at h5
  have hlt := vr_lt h2
  rw [h3] at hlt
  have hc : c' = 0 := by
    have hp : (0 : Int) < B32 ^ (rl a).length := Int.pow_pos (by decide)
    rcases Int.lt_or_eq_of_le h4 with h | h
    · have : 1 * B32 ^ (rl a).length ≤ c' * B32 ^ (rl a).length := Int.mul_le_mul_of_nonneg_right (by omega) (by omega)
      omega
    · exact h.symm
  rw [hc] at h5
  have L : ((rl a).length : Int) ≤ 17592186044416 := by omega
  unfold F.ref01_Minus
  rw [if_pos (by simp; omega), Int.toNat_natCast, h1', Option.bind_some, norm_ok h2 (by omega) (by omega), show vr r = a - b by omega, Option.bind_some]
end Go.Proofs.Ytfeifhlnidkbbaa.Wide

namespace Go.Proofs.Ytfeifhlnidkbbaa.Wide
open Go Go.RowKit Go.Proofs.Ytfeifhlnidkbbaa.Vm
theorem vr_take_lt {l : List Int} (d : Dg l) {m : Nat} (h : m ≤ l.length) : vr (l.take m) < B32 ^ m ∧ 0 ≤ vr (l.take m) := by
  have d' : Dg (l.take m) := fun x hx => d x (List.mem_of_mem_take hx)
  have := vr_lt d'
  rw [List.length_take, Nat.min_eq_left h] at this
  exact ⟨this, vr_nonneg d'⟩
theorem digit_lt {x y P u v : Int} (h : x < y) (hP : 0 < P) (hu : u < P) (hv : 0 ≤ v) : u + x * P < v + y * P := by
  have := Int.mul_le_mul_of_nonneg_right (show x + 1 ≤ y by omega) (show 0 ≤ P by omega)
  rw [Int.add_mul, Int.one_mul] at this
  omega
theorem compare_loop {K : Nat} {l0 l1 : List Int} (d0 : Dg l0) (d1 : Dg l1) (hl : l0.length = l1.length) (hM : l0.length < 900000) : ∀ (k m : Nat), m < k → m ≤ l0.length → vr l0 - vr (l0.take m) = vr l1 - vr (l1.take m) →
    F.ref01_Compare_l6 K k l0 l1 ((m : Int) - 1) = some (if vr l0 < vr l1 then .inr (-1) else if vr l1 < vr l0 then .inr 1 else .inl ())
  | 0, m, h, _, _ => by omega
  | k + 1, m, h, hm, hv => by
    rw [F.ref01_Compare_l6]
    cases m with
    | zero =>
      simp only [List.take_zero, vr] at hv
      rw [if_neg (show ¬ vr l0 < vr l1 by omega), if_neg (show ¬ vr l1 < vr l0 by omega)]
      simp
    | succ m =>
      rw [show ((m + 1 : Nat) : Int) - 1 = (m : Int) by omega]
      simp only [Int.toNat_natCast]
      have g0 : (m : Int) < (l0.length : Int) := by omega
      have g1 : (m : Int) < (l1.length : Int) := by omega
      have hP : (0 : Int) < B32 ^ m := Int.pow_pos (by decide)
      obtain ⟨u0, u1⟩ := vr_take_lt d0 (m := m) (by omega)
      obtain ⟨v0, v1⟩ := vr_take_lt d1 (m := m) (by omega)
      rw [vr_take', vr_take'] at hv
      rcases Int.lt_trichotomy (nth 0 l0 m) (nth 0 l1 m) with c | c | c
      · have := digit_lt c hP u0 v1
        rw [if_pos (show vr l0 < vr l1 by omega)]
        simp [g0, g1, c]
      · have ih := compare_loop (K := K) d0 d1 hl hM k m (by omega) (by omega) (by rw [c] at hv; omega)
        rw [show IntKind.i64.wrap ((m : Int) - 1) = (m : Int) - 1 from iw (by omega) (by omega)]
        simp [g0, g1, c, ih]
      · have := digit_lt c hP v0 u1
        have c' : ¬ nth 0 l0 m < nth 0 l1 m := by omega
        rw [if_neg (show ¬ vr l0 < vr l1 by omega), if_pos (show vr l1 < vr l0 by omega)]
        simp [g0, g1, c, c']
theorem rl_len_lt {a b : Int} (h : (rl a).length < (rl b).length) : a < b := by
  apply Int.lt_of_not_ge
  intro hge
  have := rl_len_mono hge
  omega
theorem compare_ok {K : Nat} (hK : 2000 ≤ K) {a b : Int} (a0 : 0 ≤ a) (b0 : 0 ≤ b) (ha : (rl a).length ≤ 1000) : F.ref01_Compare K (rl a) (rl b) = some (cmp3 a b) := by
  unfold F.ref01_Compare
  by_cases e : (rl a).length = (rl b).length
  · have key := compare_loop (K := K) (dg_rl a) (dg_rl b) e (by omega) K (rl a).length (by omega) (Nat.le_refl _) (by rw [List.take_of_length_le (Nat.le_refl _), List.take_of_length_le (l := rl b) (by omega)]; omega)
    rw [vr_rl a0, vr_rl b0] at key
    rw [show IntKind.i64.wrap (((rl a).length : Int) - 1) = ((rl a).length : Int) - 1 from iw (by omega) (by omega), key]
    rw [if_neg (by rw [e]; simp)]
    unfold cmp3
    by_cases c1 : a < b
    · simp [casO, c1]
    · by_cases c2 : b < a
      · simp [casO, c1, c2]
      · simp [casO, c1, c2]
  · have e' : ¬ ((rl a).length : Int) = ((rl b).length : Int) := by omega
    unfold cmp3
    by_cases c : (rl a).length < (rl b).length
    · have c' : ((rl a).length : Int) < ((rl b).length : Int) := by omega
      have := rl_len_lt c
      rw [if_pos this]
      simp [e', c']
    · have := rl_len_lt (a := b) (b := a) (by omega)
      have c' : ¬ ((rl a).length : Int) < ((rl b).length : Int) := by omega
      rw [if_neg (show ¬ a < b by omega), if_pos this]
      simp [e', c']
end Go.Proofs.Ytfeifhlnidkbbaa.Wide

namespace Go.Proofs.Ytfeifhlnidkbbaa.Wide
open Go Go.RowKit Go.Proofs.Ytfeifhlnidkbbaa.Vm
theorem nth_rl : ∀ (i : Nat) {a : Int}, 0 ≤ a → nth 0 (rl a) i = a / B32 ^ i % B32
  | 0, a, h => by
    by_cases c : 0 < a
    · rw [rl_pos c]; simp [nth]
    · rw [rl_zero (by omega), show a = 0 by omega]; rfl
  | i + 1, a, h => by
    by_cases c : 0 < a
    · rw [rl_pos c]
      show nth 0 (rl (a / B32)) i = _
      rw [nth_rl i (by unfold B32; omega), Int.pow_succ, Int.mul_comm, Int.ediv_ediv_of_nonneg (by decide)]
    · rw [rl_zero (by omega), show a = 0 by omega]; simp [nth]
theorem len_rl_le {a : Int} {n : Nat} (h : (rl a).length = n + 1) : B32 ^ n ≤ a ∧ a < B32 ^ (n + 1) := by
  constructor
  · apply Int.le_of_not_gt
    intro hlt
    have := rl_len_le hlt
    omega
  · have h0 : 0 ≤ a := by
      apply Int.le_of_not_gt
      intro hn
      rw [rl_zero (by omega)] at h; simp at h
    have := vr_lt (dg_rl a)
    rw [vr_rl h0, h] at this
    exact this
theorem b32_pow (n : Nat) : B32 ^ n = 2 ^ (32 * n) := by
  rw [Int.pow_mul, show (2 : Int) ^ 32 = B32 by decide]
theorem blen_half {x : Int} (h : 0 < x) : blen x = blen (x / 2) + 1 := by
  by_cases c : 2 ≤ x
  · have := blen_shift (x := x) 1 (by omega)
    rw [this]; simp; omega
  · rw [show x = 1 by omega]; decide
theorem size_loop {K : Nat} : ∀ (k : Nat) (n x : Int), 0 ≤ n → n + k ≤ 1000000 → 0 ≤ x → x < 2 ^ k → x < 18446744073709551616 → k ≤ 64 → ∀ j, k < j → F.ref01_Size_l5 K j n x = some (n + blen x)
  | 0, n, x, n0, n1, x0, x1, x2, hk, j, hj => by
    obtain ⟨j, rfl⟩ : ∃ i, j = i + 1 := ⟨j - 1, by omega⟩
    rw [F.ref01_Size_l5]
    have : x = 0 := by simp at x1; omega
    subst this
    simp [blen]
  | k + 1, n, x, n0, n1, x0, x1, x2, hk, j, hj => by
    obtain ⟨j, rfl⟩ : ∃ i, j = i + 1 := ⟨j - 1, by omega⟩
    rw [F.ref01_Size_l5]
    by_cases c : 0 < x
    · rw [if_pos (by simpa using c), td _ x0, uw (by omega) (by omega), iw (by omega) (by omega)]
      rw [size_loop k (n + 1) (x / 2) (by omega) (by omega) (by omega) (by rw [Int.pow_succ] at x1; omega) (by omega) (by omega) j (by omega), blen_half c]
      congr 1; omega
    · rw [if_neg (by simpa using c), show x = 0 by omega]
      simp [blen]
theorem size_ok {K : Nat} (hK : 2000 ≤ K) {a : Int} (a0 : 0 ≤ a) (ha : (rl a).length ≤ 1000) : F.ref01_Size K (rl a) = some (blen a) := by
  unfold F.ref01_Size
  cases e : (rl a).length with
  | zero =>
    have : a = 0 := by
      have h := vr_rl a0
      rw [List.length_eq_zero_iff.1 e, vr] at h; exact h.symm
    subst this
    simp [blen]
  | succ n =>
    obtain ⟨h1, h2⟩ := len_rl_le e
    have hp : (0 : Int) < B32 ^ n := Int.pow_pos (by decide)
    have hd0 : 0 < a / B32 ^ n := Int.lt_of_lt_of_le (by decide) ((Int.le_ediv_iff_mul_le hp).2 (by omega) : 1 ≤ a / B32 ^ n)
    have hd1 : a / B32 ^ n < B32 := (Int.ediv_lt_iff_lt_mul hp).2 (by rw [Int.mul_comm, ← Int.pow_succ]; exact h2)
    have hn := nth_rl n a0
    rw [Int.emod_eq_of_lt (by omega) hd1] at hn
    have hs := blen_shift (x := a) (32 * n) (by rw [← b32_pow]; exact h1)
    rw [← b32_pow] at hs
    have key := size_loop (K := K) 33 (32 * (n : Int)) (a / B32 ^ n) (by omega) (by omega) (by omega) (by unfold B32 at *; omega) (by unfold B32 at *; omega) (by decide) K (by omega)
    have i1 : IntKind.i64.wrap (((n + 1 : Nat) : Int) - 1) = (n : Int) := by rw [iw (by omega) (by omega)]; omega
    have i2 : IntKind.i64.wrap (32 * (n : Int)) = 32 * (n : Int) := iw (by omega) (by omega)
    have g : ¬ ((n : Int) + 1 = 0) := by omega
    have g2 : (n : Int) < (n : Int) + 1 := by omega
    have hk : (((32 * n : Nat) : Int)) = 32 * (n : Int) := by omega
    rw [i1, i2, Int.toNat_natCast, hn, key, hs, hk]
    rw [if_neg (by simp; omega), if_pos (by simp; omega), Option.bind_some]
end Go.Proofs.Ytfeifhlnidkbbaa.Wide

namespace Go.Proofs.Ytfeifhlnidkbbaa.Wide
open Go Go.RowKit Go.Proofs.Ytfeifhlnidkbbaa.Vm
theorem vr_zeros : ∀ n : Nat, vr (List.replicate n 0) = 0
  | 0 => rfl
  | n + 1 => by rw [List.replicate_succ, vr, vr_zeros n]; rfl
theorem left_step_mul (u S x P Z t c : Int) (ht : t = x * S + c) (h : u + c * P = Z) : u + t % B32 * P + t / B32 * (P * B32) = Z + x * S * P := by
  have e := dm t P
  have e2 : t * P = x * S * P + c * P := by rw [ht, Int.add_mul]
  omega
theorem rleft_loop {K : Nat} {l : List Int} (d : Dg l) (hM : l.length ≤ 1000) {n : Int} {s z : Nat} (hs : n.tmod 32 = (s : Int)) (hs1 : s < 32) (hz : z ≤ 1000) : ∀ (k i : Nat) (c : Int) (l5 : List Int), l5.length = z + i → Dg l5 → 0 ≤ c → c < B32 → vr l5 + c * B32 ^ (z + i) = B32 ^ z * 2 ^ s * vr (l.take i) → i ≤ l.length → l.length - i < k →
    ∃ r c', F.ref01_Left_l4 K k n l5 c l l.length i = some (r, c') ∧ Dg r ∧ r.length = z + l.length ∧ 0 ≤ c' ∧ c' < B32 ∧ vr r + c' * B32 ^ (z + l.length) = B32 ^ z * 2 ^ s * vr l
  | 0, i, c, l5, _, _, _, _, _, _, h => by omega
  | k + 1, i, c, l5, h5, d5, c0, c1, hv, hi, hk => by
    rw [F.ref01_Left_l4, hs]
    simp only [Int.toNat_natCast]
    by_cases g : i < l.length
    · have g' : (i : Int) < (l.length : Int) := by omega
      have b := nth_bd d i
      have hS0 : (0 : Int) < 2 ^ s := Int.pow_pos (by decide)
      have hS1 : (2 : Int) ^ s ≤ 2147483648 := by
        have := pow_le (show s ≤ 31 by omega)
        have e : (2 : Int) ^ 31 = 2147483648 := by decide
        omega
      have m := mul_le (a := nth 0 l i) (b := 2 ^ s) (A := 4294967295) (B := 2147483648) b.1 (by unfold B32 at b; omega) (by omega) hS1
      have w1 : IntKind.u64.wrap (nth 0 l i * 2 ^ s) = nth 0 l i * 2 ^ s := uw m.1 (by omega)
      have w2 : IntKind.u64.wrap (nth 0 l i * 2 ^ s + c) = nth 0 l i * 2 ^ s + c := uw (by omega) (by unfold B32 at c1; omega)
      have w3 : IntKind.u64.wrap ((nth 0 l i * 2 ^ s + c) / 4294967296) = (nth 0 l i * 2 ^ s + c) / 4294967296 := uw (by omega) (by unfold B32 at c1; omega)
      have wi1 : IntKind.i64.wrap ((i : Int) + 1) = ((i + 1 : Nat) : Int) := by rw [iw (by omega) (by omega)]; omega
      have mn : min s 64 = s := by omega
      have L : l5.length + 1 ≤ 17592186044416 := by omega
      have sn : ¬ ((s : Int) < 0) := by omega
      have ih := rleft_loop (K := K) d hM hs hs1 hz k (i + 1) ((nth 0 l i * 2 ^ s + c) / B32) (l5 ++ [(nth 0 l i * 2 ^ s + c) % B32]) (by rw [List.length_append]; simp; omega) (dg_append d5 (by unfold B32; omega) (by unfold B32; omega)) (by unfold B32 at *; omega) (by unfold B32 at *; omega) (by
        rw [vr_append, vr_take', h5, show z + (i + 1) = (z + i) + 1 by omega, Int.pow_succ]
        have e := left_step_mul (vr l5) (2 ^ s) (nth 0 l i) (B32 ^ (z + i)) _ _ c rfl hv
        rw [e, Int.mul_add]
        congr 1
        rw [Int.pow_add]
        simp only [Int.mul_comm, Int.mul_left_comm, Int.mul_assoc]) (by omega) (by omega)
      rw [mn, w1, w2, tm _ (by omega), td _ (by omega), w3, wi1]
      simpa [g', L, sn] using ih
    · obtain rfl : i = l.length := by omega
      rw [List.take_of_length_le (Nat.le_refl _)] at hv
      exact ⟨l5, c, by simp, d5, h5, c0, c1, hv⟩
theorem rleft_ok {K : Nat} (hK : 4000 ≤ K) {a n : Int} (a0 : 0 ≤ a) (ha : (rl a).length ≤ 1000) (n0 : 0 ≤ n) (n1 : n ≤ 30000) : F.ref01_Left K (rl a) n = some (rl (a * 2 ^ n.toNat)) := by
  obtain ⟨z, hz⟩ : ∃ z : Nat, (z : Int) = n / 32 := ⟨(n / 32).toNat, by omega⟩
  obtain ⟨s, hs⟩ : ∃ s : Nat, (s : Int) = n % 32 := ⟨(n % 32).toNat, by omega⟩
  have e1 : n.tdiv 32 = (z : Int) := by rw [td _ n0]; omega
  have e2 : n.tmod 32 = (s : Int) := by rw [tm _ n0]; omega
  have w : IntKind.i64.wrap (z : Int) = (z : Int) := iw (by omega) (by omega)
  obtain ⟨r, c, h1, h2, h3, h4, h5, h6⟩ := rleft_loop (K := K) (dg_rl a) ha e2 (by omega) (z := z) (by omega) K 0 0 (List.replicate z 0) (by simp) (dg_zeros z) (by decide) (by decide) (by simp [vr, vr_zeros]) (by omega) (by omega)
  have h1' : F.ref01_Left_l4 K K n (List.replicate z 0) 0 (rl a) (rl a).length 0 = some (r, c) := h1
  rw [vr_rl a0] at h6
  unfold F.ref01_Left
  rw [e1, w, Int.toNat_natCast, h1', if_pos (by simp; omega), Option.bind_some]
  have L : r.length + 1 ≤ 17592186044416 := by omega
  have hn := norm_ok (K := K) (l := r ++ [c]) (dg_append h2 h4 h5) (by simp; omega) (by simp; omega)
  have hp : B32 ^ z * 2 ^ s = 2 ^ n.toNat := by rw [b32_pow, ← Int.pow_add]; congr 1; omega
  rw [vr_append, h3, h6, hp, Int.mul_comm] at hn
  simp only [hn]
  rw [if_pos (by simpa using L), Option.bind_some]
end Go.Proofs.Ytfeifhlnidkbbaa.Wide

namespace Go.Proofs.Ytfeifhlnidkbbaa.Wide
open Go Go.RowKit Go.Proofs.Ytfeifhlnidkbbaa.Vm
theorem vr_set : ∀ {l : List Int} {n : Nat} (x : Int), n < l.length → vr (l.set n x) = vr l + (x - nth 0 l n) * B32 ^ n
  | [], n, x, h => by simp at h
  | y :: l, 0, x, h => by simp [vr, nth]; omega
  | y :: l, n + 1, x, h => by
    have ih := vr_set (l := l) (n := n) x (by simpa using h)
    simp only [List.set_cons_succ, vr, nth, ih, Int.pow_succ]
    rw [Int.mul_add, Int.mul_left_comm, Int.mul_comm (B32 ^ n) B32]
    omega
theorem nth_set_ne : ∀ {l : List Int} {n m : Nat} (x : Int), n ≠ m → nth 0 (l.set n x) m = nth 0 l m
  | [], n, m, x, h => by simp
  | y :: l, 0, 0, x, h => absurd rfl h
  | y :: l, 0, m + 1, x, h => rfl
  | y :: l, n + 1, 0, x, h => rfl
  | y :: l, n + 1, m + 1, x, h => by
    simp only [List.set_cons_succ, nth]
    exact nth_set_ne x (by omega)
theorem times_inner {K : Nat} {l0 l1 : List Int} (d0 : Dg l0) (d1 : Dg l1) (h0 : l0.length ≤ 1000) (h1 : l1.length ≤ 1000) {i : Nat} (hi : i < l0.length) {x16 : Int} {V : Int} : ∀ (k j : Nat) (c : Int) (l5 : List Int), l5.length = l0.length + l1.length → Dg l5 → 0 ≤ c → c < B32 → (∀ p, i + l1.length ≤ p → nth 0 l5 p = 0) → vr l5 + c * B32 ^ (i + j) = V + nth 0 l0 i * vr (l1.take j) * B32 ^ i → j ≤ l1.length → l1.length - j < k →
    ∃ r c', F.ref01_Times_l7 K k l0 l1 l5 i c x16 i l1.length j = some (l0, l1, r, (i : Int), c', x16, (i : Int)) ∧ Dg r ∧ r.length = l0.length + l1.length ∧ 0 ≤ c' ∧ c' < B32 ∧ (∀ p, i + l1.length ≤ p → nth 0 r p = 0) ∧ vr r + c' * B32 ^ (i + l1.length) = V + nth 0 l0 i * vr l1 * B32 ^ i
  | 0, j, c, l5, _, _, _, _, _, _, _, h => by omega
  | k + 1, j, c, l5, h5, d5, c0, c1, hz, hv, hj, hk => by
    rw [F.ref01_Times_l7]
    have wij : IntKind.i64.wrap ((i : Int) + (j : Int)) = ((i + j : Nat) : Int) := by rw [iw (by omega) (by omega)]; omega
    rw [wij]
    simp only [Int.toNat_natCast]
    by_cases g : j < l1.length
    · have g' : (j : Int) < (l1.length : Int) := by omega
      have gi : (i : Int) < (l0.length : Int) := by omega
      have g5 : (i : Int) + (j : Int) < (l5.length : Int) := by omega
      have g5' : ((i + j : Nat) : Int) < (l5.length : Int) := by omega
      have bx := nth_bd d0 i
      have by' := nth_bd d1 j
      have bc := nth_bd d5 (i + j)
      have m := mul_le (a := nth 0 l0 i) (b := nth 0 l1 j) (A := 4294967295) (B := 4294967295) bx.1 (by unfold B32 at bx; omega) by'.1 (by unfold B32 at by'; omega)
      have w1 : IntKind.u64.wrap (nth 0 l0 i * nth 0 l1 j) = nth 0 l0 i * nth 0 l1 j := uw m.1 (by omega)
      have w2 : IntKind.u64.wrap (nth 0 l0 i * nth 0 l1 j + nth 0 l5 (i + j)) = nth 0 l0 i * nth 0 l1 j + nth 0 l5 (i + j) := uw (by omega) (by unfold B32 at bc; omega)
      have w3 : IntKind.u64.wrap (c + (nth 0 l0 i * nth 0 l1 j + nth 0 l5 (i + j))) = c + (nth 0 l0 i * nth 0 l1 j + nth 0 l5 (i + j)) := uw (by omega) (by unfold B32 at bc c1; omega)
      have wi1 : IntKind.i64.wrap ((j : Int) + 1) = ((j + 1 : Nat) : Int) := by rw [iw (by omega) (by omega)]; omega
      obtain ⟨t, ht⟩ : ∃ t, t = c + (nth 0 l0 i * nth 0 l1 j + nth 0 l5 (i + j)) := ⟨_, rfl⟩
      have t0 : 0 ≤ t := by omega
      have t1 : t < 18446744073709551616 := by unfold B32 at bc c1; omega
      have w4 : IntKind.u64.wrap (t / 4294967296) = t / 4294967296 := uw (by omega) (by omega)
      rw [w1, w2, w3, ← ht, tm _ t0, td _ t0, w4, wi1]
      have ih := times_inner (K := K) d0 d1 h0 h1 hi (x16 := x16) (V := V) k (j + 1) (t / B32) (l5.set (i + j) (t % B32)) (by simp [h5]) (dg_set d5 (by unfold B32; omega) (by unfold B32; omega)) (by unfold B32; omega) (by unfold B32; omega) (fun p hp => by rw [nth_set_ne _ (by omega)]; exact hz p hp) (by
        rw [vr_set _ (by omega), vr_take', show i + (j + 1) = (i + j) + 1 by omega, Int.pow_succ]
        have e := dm t (B32 ^ (i + j))
        have e2 : t * B32 ^ (i + j) = c * B32 ^ (i + j) + nth 0 l0 i * (nth 0 l1 j * B32 ^ j) * B32 ^ i + nth 0 l5 (i + j) * B32 ^ (i + j) := by
          rw [ht, Int.add_mul, Int.add_mul, Int.pow_add]
          simp only [Int.mul_comm, Int.mul_left_comm, Int.mul_assoc]
          omega
        rw [Int.sub_mul, Int.mul_add, Int.add_mul]
        omega) (by omega) (by omega)
      have gp : 0 ≤ (i : Int) + (j : Int) := by omega
      simpa [g', gi, g5, g5', gp] using ih
    · obtain rfl : j = l1.length := by omega
      rw [List.take_of_length_le (Nat.le_refl _)] at hv
      exact ⟨l5, c, by simp, d5, h5, c0, c1, hz, hv⟩
theorem times_outer {K : Nat} {l0 l1 : List Int} (hK : 2000 ≤ K) (d0 : Dg l0) (d1 : Dg l1) (h0 : l0.length ≤ 1000) (h1 : l1.length ≤ 1000) : ∀ (k i : Nat) (l5 : List Int), l5.length = l0.length + l1.length → Dg l5 → (∀ p, i + l1.length ≤ p → nth 0 l5 p = 0) → vr l5 = vr (l0.take i) * vr l1 → i ≤ l0.length → l0.length - i < k →
    ∃ r, F.ref01_Times_l3 K k l0 l1 l5 l0.length i = some r ∧ Dg r ∧ r.length = l0.length + l1.length ∧ vr r = vr l0 * vr l1
  | 0, i, l5, _, _, _, _, _, h => by omega
  | k + 1, i, l5, h5, d5, hz, hv, hi, hk => by
    rw [F.ref01_Times_l3]
    by_cases g : i < l0.length
    · have g' : (i : Int) < (l0.length : Int) := by omega
      obtain ⟨r, c, e1, e2, e3, e4, e5, e6, e7⟩ := times_inner (K := K) d0 d1 h0 h1 g (x16 := l0.length) (V := vr l5) K 0 0 l5 h5 d5 (by decide) (by decide) hz (by simp [vr]) (by omega) (by omega)
      have e1' : F.ref01_Times_l7 K K l0 l1 l5 i 0 l0.length i l1.length 0 = some (l0, l1, r, (i : Int), c, (l0.length : Int), (i : Int)) := e1
      have wij : IntKind.i64.wrap ((i : Int) + (l1.length : Int)) = ((i + l1.length : Nat) : Int) := by rw [iw (by omega) (by omega)]; omega
      have wi1 : IntKind.i64.wrap ((i : Int) + 1) = ((i + 1 : Nat) : Int) := by rw [iw (by omega) (by omega)]; omega
      have g5 : ((i + l1.length : Nat) : Int) < (r.length : Int) := by omega
      have g5' : (i : Int) + (l1.length : Int) < (r.length : Int) := by omega
      have z := e6 (i + l1.length) (by omega)
      have wc : IntKind.u64.wrap (0 + c) = c := by rw [Int.zero_add]; exact uw e4 (by unfold B32 at e5; omega)
      have ih := times_outer hK d0 d1 h0 h1 k (i + 1) (r.set (i + l1.length) c) (by simp [e3]) (dg_set e2 e4 e5) (fun p hp => by rw [nth_set_ne _ (by omega)]; exact e6 p (by omega)) (by
        rw [vr_set _ (by omega), z, Int.sub_zero, e7, hv, vr_take', Int.add_mul]
        simp only [Int.mul_comm, Int.mul_left_comm, Int.mul_assoc]) (by omega) (by omega)
      rw [e1']
      simp only [Option.bind_some, wij, Int.toNat_natCast, z, wc, wi1]
      have gp : 0 ≤ (i : Int) + (l1.length : Int) := by omega
      simpa [g', g5, g5', gp] using ih
    · obtain rfl : i = l0.length := by omega
      rw [List.take_of_length_le (Nat.le_refl _)] at hv
      exact ⟨l5, by simp, d5, h5, hv⟩
theorem times_ok {K : Nat} (hK : 4000 ≤ K) {a b : Int} (a0 : 0 ≤ a) (b0 : 0 ≤ b) (ha : (rl a).length ≤ 1000) (hb : (rl b).length ≤ 1000) : F.ref01_Times K (rl a) (rl b) = some (rl (a * b)) := by
  obtain ⟨N, hN⟩ : ∃ N, N = (rl a).length + (rl b).length := ⟨_, rfl⟩
  obtain ⟨r, h1, h2, h3, h4⟩ := times_outer (K := K) (by omega) (dg_rl a) (dg_rl b) ha hb K 0 (List.replicate N 0) (by simp [hN]) (dg_zeros _) (fun p hp => by
    by_cases h : p < N
    · rw [nth_eq_get (by simpa using h)]; simp
    · exact nth_out (by simp; omega)) (by simp [vr, vr_zeros]) (by omega) (by omega)
  have h1' : F.ref01_Times_l3 K K (rl a) (rl b) (List.replicate N 0) (rl a).length 0 = some r := h1
  rw [vr_rl a0, vr_rl b0] at h4
  have w : IntKind.i64.wrap (((rl a).length : Int) + ((rl b).length : Int)) = (N : Int) := by rw [iw (by omega) (by omega)]; omega
  unfold F.ref01_Times
  rw [w, Int.toNat_natCast, h1', if_pos (by simp; omega), Option.bind_some, norm_ok h2 (by omega) (by omega), h4, Option.bind_some]
end Go.Proofs.Ytfeifhlnidkbbaa.Wide

namespace Go.Proofs.Ytfeifhlnidkbbaa.Wide
open Go Go.RowKit Go.Proofs.Ytfeifhlnidkbbaa.Vm
theorem len_small {x A : Int} (h : x ≤ 2 * A) (hA : (rl (2 * A)).length ≤ 1000) : (rl x).length ≤ 1000 := Nat.le_trans (rl_len_mono h) hA
theorem pow_pred {n : Int} (h : 0 ≤ n) : (2 : Int) ^ (n + 1).toNat = 2 ^ n.toNat * 2 := by
  rw [show (n + 1).toNat = n.toNat + 1 by omega, Int.pow_succ]
theorem rquo_loop {K : Nat} (hK : 4000 ≤ K) {A B : Int} (hB : 0 < B) (hA : (rl (2 * A)).length ≤ 1000) : ∀ (k : Nat) (n R q : Int), A = q * B + R → 0 ≤ R → 0 ≤ q → -1 ≤ n → n ≤ 30000 → R < B * 2 ^ (n + 1).toNat → (0 ≤ n → B * 2 ^ n.toNat ≤ 2 * A) → (n + 1).toNat < k → F.ref01_Quo_l3 K k (rl R) (rl B) (rl q) n = some (rl (A % B), rl (A / B))
  | 0, n, R, q, _, _, _, _, _, _, _, h => by omega
  | k + 1, n, R, q, hA1, R0, q0, n0, n1, hR, hT, hk => by
    rw [F.ref01_Quo_l3]
    have hk' : 0 ≤ n → (n - 1 + 1).toNat < k := fun h => by omega
    have qB : q ≤ q * B := by
      have := Int.mul_le_mul_of_nonneg_left (show 1 ≤ B by omega) q0
      omega
    by_cases c : 0 ≤ n
    · have T0 := hT c
      have hp : (0 : Int) < 2 ^ n.toNat := Int.pow_pos (by decide)
      have hTp : 0 < B * 2 ^ n.toNat := Int.mul_pos hB hp
      have h2 : 2 ^ n.toNat ≤ B * 2 ^ n.toNat := by
        have := Int.mul_le_mul_of_nonneg_right (show 1 ≤ B by omega) (show (0 : Int) ≤ 2 ^ n.toNat by omega)
        omega
      have BT : B ≤ B * 2 ^ n.toNat := by
        have := Int.mul_le_mul_of_nonneg_left (show 1 ≤ (2 : Int) ^ n.toNat by omega) (show 0 ≤ B by omega)
        omega
      have e1 := rleft_ok hK (a := B) (n := n) (by omega) (len_small (A := A) (by omega) hA) c n1
      have e2 := compare_ok (by omega : 2000 ≤ K) (a := B * 2 ^ n.toNat) (b := R) (by omega) R0 (len_small T0 hA)
      rw [pow_pred c] at hR
      have hR' : R < 2 * (B * 2 ^ n.toNat) := by
        rw [← Int.mul_assoc] at hR; omega
      have hn1 : (n - 1 + 1).toNat = n.toNat := by omega
      have hT' : 0 ≤ n - 1 → B * 2 ^ (n - 1).toNat ≤ 2 * A := fun h => by
        have e := pow_pred h
        rw [hn1] at e
        have := Int.mul_le_mul_of_nonneg_left (show (2 : Int) ^ (n - 1).toNat ≤ 2 ^ n.toNat by rw [e]; have : (0 : Int) < 2 ^ (n - 1).toNat := Int.pow_pos (by decide); omega) (show 0 ≤ B by omega)
        omega
      have wn : IntKind.i64.wrap (n - 1) = n - 1 := iw (by omega) (by omega)
      by_cases g : B * 2 ^ n.toNat ≤ R
      · have e3 := minus_ok (by omega : 2000 ≤ K) (a := R) (b := B * 2 ^ n.toNat) (by omega) g (len_small (A := A) (by omega) hA)
        have e4 := word_ok (K := K) (by omega) (x := 1) (by decide)
        have e5 := rleft_ok hK (a := 1) (n := n) (by decide) (by rw [rl_pos (by decide), rl_zero (by decide)]; simp) c n1
        rw [Int.one_mul] at e5
        have e6 := plus_ok (by omega : 2000 ≤ K) (a := q) (b := 2 ^ n.toNat) q0 (by omega) (len_small (A := A) (by omega) hA) (len_small (A := A) (by omega) hA)
        have ih := rquo_loop hK hB hA k (n - 1) (R - B * 2 ^ n.toNat) (q + 2 ^ n.toNat) (by rw [Int.add_mul, Int.mul_comm (2 ^ n.toNat) B]; omega) (by omega) (by omega) (by omega) (by omega) (by rw [hn1]; omega) hT' (hk' c)
        have ec : cmp3 (B * 2 ^ n.toNat) R ≤ 0 := by unfold cmp3; split <;> (try split) <;> omega
        simp [c, e1, e2, ec, e3, e4, e5, e6, wn, ih]
      · have ih := rquo_loop hK hB hA k (n - 1) R q hA1 R0 q0 (by omega) (by omega) (by rw [hn1]; omega) hT' (hk' c)
        have ec : ¬ cmp3 (B * 2 ^ n.toNat) R ≤ 0 := by unfold cmp3; rw [if_neg (by omega), if_pos (by omega)]; omega
        simp [c, e1, e2, ec, wn, ih]
    · have hn : n = -1 := by omega
      subst hn
      have hR2 : R < B := by simpa using hR
      obtain ⟨rfl, rfl⟩ := inv_end (n := -1) ⟨hA1, R0, q0, fun _ => hR2, fun h => absurd h (by decide)⟩ hB (by decide)
      simp
theorem blen_bd {x : Int} (h : 0 < x) : 2 ^ ((blen x).toNat - 1) ≤ x ∧ x < 2 ^ (blen x).toNat ∧ 1 ≤ blen x := by
  obtain ⟨m, e, a, b⟩ := blen_spec h
  rw [e, show ((m : Int) + 1).toNat = m + 1 by omega, Nat.add_sub_cancel]
  exact ⟨a, b, by omega⟩
theorem rquo_ok {K : Nat} (hK : 40000 ≤ K) {A B : Int} (hA0 : 0 ≤ A) (hB : 0 < B) (hA : (rl (2 * A)).length ≤ 900) (hBl : (rl B).length ≤ 1000) : F.ref01_Quo K (rl A) (rl B) = some (rl (A / B), rl (A % B)) := by
  have lA : (rl A).length ≤ 900 := Nat.le_trans (rl_len_mono (by omega : A ≤ 2 * A)) hA
  have sA := size_ok (by omega : 2000 ≤ K) hA0 (by omega)
  have sB := size_ok (by omega : 2000 ≤ K) (by omega : 0 ≤ B) hBl
  obtain ⟨b1, b2, b3⟩ := blen_bd hB
  have r0 : 0 ≤ A % B := Int.emod_nonneg _ (by omega)
  have r1 : A % B ≤ A := by
    have e := Int.emod_add_mul_ediv A B
    have := Int.mul_nonneg (show 0 ≤ B by omega) (Int.ediv_nonneg hA0 (show 0 ≤ B by omega))
    omega
  have nr := norm_ok (K := K) (dg_rl (A % B)) (by have := rl_len_mono r1; omega) (by have := rl_len_mono r1; omega)
  rw [vr_rl r0] at nr
  have bA : 0 ≤ blen A ∧ blen A ≤ ((32 * (rl A).length : Nat) : Int) := blen_lt (by
    have := vr_lt (dg_rl A)
    rw [vr_rl hA0, b32_pow] at this
    exact this)
  have bB : blen B ≤ ((32 * (rl B).length : Nat) : Int) := (blen_lt (by
    have := vr_lt (dg_rl B)
    rw [vr_rl (by omega), b32_pow] at this
    exact this)).2
  have wn : IntKind.i64.wrap (blen A - blen B) = blen A - blen B := iw (by omega) (by omega)
  have key : F.ref01_Quo_l3 K K (rl A) (rl B) (rl 0) (blen A - blen B) = some (rl (A % B), rl (A / B)) := by
    by_cases c : -1 ≤ blen A - blen B
    · by_cases hA1 : 0 < A
      · obtain ⟨a1, a2, a3⟩ := blen_bd hA1
        refine rquo_loop (by omega) hB (by omega) K _ A 0 (by omega) hA0 (by decide) c (by omega) ?_ (fun hn => ?_) (by omega)
        · have e : (2 : Int) ^ (blen A).toNat = 2 ^ ((blen B).toNat - 1) * 2 ^ (blen A - blen B + 1).toNat := by
            rw [← Int.pow_add]; congr 1; omega
          have := Int.mul_le_mul_of_nonneg_right b1 (show (0 : Int) ≤ 2 ^ (blen A - blen B + 1).toNat from Int.le_of_lt (Int.pow_pos (by decide)))
          omega
        · have e : (2 : Int) ^ (blen A).toNat = 2 ^ ((blen B).toNat) * 2 ^ (blen A - blen B).toNat := by
            rw [← Int.pow_add]; congr 1; omega
          have h := Int.mul_le_mul_of_nonneg_right (Int.le_of_lt b2) (show (0 : Int) ≤ 2 ^ (blen A - blen B).toNat from Int.le_of_lt (Int.pow_pos (by decide)))
          have e2 : (2 : Int) ^ (blen A).toNat = 2 ^ ((blen A).toNat - 1) * 2 := by
            rw [← Int.pow_succ]; congr 1; omega
          omega
      · have hz : A = 0 := by omega
        subst hz
        refine rquo_loop (by omega) hB (by omega) K _ 0 0 (by omega) (by decide) (by decide) c (by omega) (Int.mul_pos hB (Int.pow_pos (by decide))) (fun hn => ?_) (by omega)
        have : blen 0 = 0 := by decide
        omega
    · have hlt : A < B := by
        by_cases hA1 : 0 < A
        · obtain ⟨a1, a2, a3⟩ := blen_bd hA1
          have := pow_le (show (blen A).toNat ≤ (blen B).toNat - 1 by omega)
          omega
        · omega
      obtain ⟨j, rfl⟩ : ∃ j, K = j + 1 := ⟨K - 1, by omega⟩
      rw [F.ref01_Quo_l3, if_neg (by simp; omega), Int.emod_eq_of_lt hA0 hlt, Int.ediv_eq_zero_of_lt hA0 hlt]
  rw [rl_zero (show (0 : Int) ≤ 0 by decide)] at key
  unfold F.ref01_Quo
  rw [sA, Option.bind_some, sB, Option.bind_some, wn, key, Option.bind_some]
  simp only [nr, Option.bind_some]
end Go.Proofs.Ytfeifhlnidkbbaa.Wide

namespace Go.Proofs.Ytfeifhlnidkbbaa.Wide
open Go Go.RowKit Go.Proofs.Ytfeifhlnidkbbaa.Vm
theorem top_pow : B32 ^ 12 = TOP := by
  have e : ∀ n m : Nat, B32 ^ (n + m) = B32 ^ n * B32 ^ m := fun n m => Int.pow_add B32 n m
  rw [show (12 : Nat) = 6 + 6 from rfl, e, show B32 ^ 6 = 6277101735386680763835789423207666416102355444464034512896 from by decide]
  unfold TOP; decide
theorem len_top {a : Int} (h : a < TOP) : (rl a).length ≤ 12 := rl_len_le (by rw [top_pow]; exact h)
theorem fits_loop {K : Nat} {l : List Int} (d : Dg l) (hM : l.length ≤ 1000) : ∀ (k m : Nat) (n : Int), m < k → m ≤ l.length → 0 ≤ n → n < 18446744073709551616 →
    F.ref01_Fits_l3 K k l n ((m : Int) - 1) = some (l, (n * B32 ^ m + vr (l.take m)) % 18446744073709551616)
  | 0, m, n, h, _, _, _ => by omega
  | k + 1, m, n, h, hm, n0, n1 => by
    rw [F.ref01_Fits_l3]
    cases m with
    | zero =>
      have : n % 18446744073709551616 = n := Int.emod_eq_of_lt n0 n1
      simp [vr, this]
    | succ m =>
      rw [show ((m + 1 : Nat) : Int) - 1 = (m : Int) by omega]
      have g0 : (m : Int) < (l.length : Int) := by omega
      have b := nth_bd d m
      have wn : IntKind.i64.wrap ((m : Int) - 1) = (m : Int) - 1 := iw (by omega) (by omega)
      simp only [Int.toNat_natCast]
      have hx : ∀ x : Int, 0 ≤ x % 18446744073709551616 ∧ x % 18446744073709551616 < 18446744073709551616 := fun x => by omega
      have ih := fits_loop (K := K) d hM k m (IntKind.u64.wrap (IntKind.u64.wrap (n * 4294967296) + nth 0 l m)) (by omega) (by omega) (by rw [wu]; exact (hx _).1) (by rw [wu]; exact (hx _).2)
      rw [wn]
      have g1 : (m : Int) ≥ 0 := by omega
      simp only [g0, g1, decide_true, Bool.and_self, if_true, ih]
      congr 2
      rw [vr_take', wu, wu, Int.pow_succ]
      have e1 : (n * 4294967296 % 18446744073709551616 + nth 0 l m) % 18446744073709551616 = (n * 4294967296 + nth 0 l m) % 18446744073709551616 := by omega
      rw [e1]
      have e2 : ∀ x y z : Int, (x % 18446744073709551616 * y + z) % 18446744073709551616 = (x * y + z) % 18446744073709551616 := fun x y z => by
        rw [Int.add_emod, Int.mul_emod, Int.emod_emod_of_dvd _ (Int.dvd_refl _), ← Int.mul_emod, ← Int.add_emod]
      rw [e2]
      congr 1
      rw [show n * (B32 ^ m * B32) = n * B32 * B32 ^ m by rw [Int.mul_comm (B32 ^ m) B32, Int.mul_assoc], Int.add_mul]
      show n * B32 * B32 ^ m + nth 0 l m * B32 ^ m + vr (l.take m) = _
      omega
theorem rfits_ok {K : Nat} (hK : 2000 ≤ K) {a : Int} (a0 : 0 ≤ a) (h : a < TOP) : F.ref01_Fits K (rl a) = some (a % 18446744073709551616, decide (a < 18446744073709551616)) := by
  have hl := len_top h
  have key := fits_loop (K := K) (dg_rl a) (by omega) K (rl a).length 0 (by omega) (Nat.le_refl _) (by decide) (by decide)
  rw [List.take_of_length_le (Nat.le_refl _), vr_rl a0, Int.zero_mul, Int.zero_add] at key
  unfold F.ref01_Fits
  rw [show IntKind.i64.wrap (((rl a).length : Int) - 1) = ((rl a).length : Int) - 1 from iw (by omega) (by omega), key, Option.bind_some]
  congr 2
  rw [decide_eq_decide]
  constructor
  · intro hh
    have := vr_lt (dg_rl a)
    rw [vr_rl a0] at this
    have hp : B32 ^ (rl a).length ≤ B32 ^ 2 := by
      have h2 : (rl a).length ≤ 2 := by simp only at hh; omega
      have : (rl a).length = 0 ∨ (rl a).length = 1 ∨ (rl a).length = 2 := by omega
      rcases this with h | h | h <;> rw [h] <;> decide
    rw [show B32 ^ 2 = 18446744073709551616 from by decide] at hp
    omega
  · intro hh
    have := rl_len_le (n := a) (k := 2) (by rw [show B32 ^ 2 = 18446744073709551616 from by decide]; exact hh)
    simp only; omega
theorem made_ok {K : Nat} (hK : 3 ≤ K) {x : Int} (h : I64 x) : F.ref01_Made K x = some (decide (x < 0), rl (if x < 0 then -x else x)) := by
  unfold I64 at h
  unfold F.ref01_Made
  by_cases c : x < 0
  · have e : IntKind.u64.wrap (0 - IntKind.u64.wrap x) = -x := by rw [wu, wu]; omega
    rw [e, word_ok (x := -x) hK (by unfold Word; omega)]
    simp [c]
  · have e : IntKind.u64.wrap x = x := by rw [wu]; omega
    rw [e, word_ok (x := x) hK (by unfold Word; omega)]
    simp [c]
end Go.Proofs.Ytfeifhlnidkbbaa.Wide

namespace Go.Proofs.Ytfeifhlnidkbbaa.Wide
open Go Go.RowKit Go.Proofs.Ytfeifhlnidkbbaa.Vm
end Go.Proofs.Ytfeifhlnidkbbaa.Wide
