/- The reference's numbers: lists of digits below 2^32 as one number. Conditions: digits are digits. -/
import Derived.Test.YtppdgohcgklinaaFB
import Derived.Test.YtppdgohcgklinaaPDe
set_option linter.unusedVariables false
set_option linter.unusedSimpArgs false
namespace Go.Proofs.Ytppdgohcgklinaa.Wide
open Go Go.RowKit Go.Proofs.Ytppdgohcgklinaa.Vm
abbrev B32 : Int := 4294967296
/-- The number that digits are. -/
def vr : List Int → Int
  | [] => 0
  | x :: l => x + B32 * vr l
def Dg (l : List Int) : Prop := ∀ x ∈ l, 0 ≤ x ∧ x < B32
/-- The digits of a number from 0 on. -/
def rl (n : Int) : List Int := if h : 0 < n then n % B32 :: rl (n / B32) else []
termination_by n.toNat
decreasing_by unfold B32; omega
theorem rl_pos {n : Int} (h : 0 < n) : rl n = n % B32 :: rl (n / B32) := by rw [rl, dif_pos h]
theorem rl_zero {n : Int} (h : n ≤ 0) : rl n = [] := by rw [rl, dif_neg (by omega)]
theorem vr_nonneg : ∀ {l : List Int}, Dg l → 0 ≤ vr l
  | [], _ => by simp [vr]
  | x :: l, h => by
    have h1 := h x (by simp)
    have h2 := vr_nonneg (l := l) fun y hy => h y (by simp [hy])
    rw [vr]
    unfold B32 at *
    omega
theorem dg_rl (n : Int) : Dg (rl n) := by
  by_cases h : 0 < n
  · rw [rl_pos h]
    intro x hx
    rcases List.mem_cons.1 hx with rfl | hx
    · unfold B32; omega
    · exact dg_rl (n / B32) x hx
  · rw [rl_zero (by omega)]; intro x hx; simp at hx
termination_by n.toNat
decreasing_by unfold B32; omega
theorem vr_rl {n : Int} (h0 : 0 ≤ n) : vr (rl n) = n := by
  by_cases h : 0 < n
  · rw [rl_pos h, vr, vr_rl (n := n / B32) (by unfold B32; omega)]
    unfold B32; omega
  · rw [rl_zero (by omega), vr]; omega
termination_by n.toNat
decreasing_by unfold B32; omega
theorem dg_cons {x : Int} {l : List Int} (h : Dg (x :: l)) : (0 ≤ x ∧ x < B32) ∧ Dg l := ⟨h x (by simp), fun y hy => h y (by simp [hy])⟩
/-- Digits without a nought at the end are the digits of their number. -/
theorem rl_vr : ∀ {l : List Int}, Dg l → l.getLast? ≠ some 0 → rl (vr l) = l
  | [], _, _ => by rw [vr, rl_zero (by decide)]
  | x :: l, h, hn => by
    obtain ⟨hx, hl⟩ := dg_cons h
    have v0 := vr_nonneg hl
    by_cases e : l = []
    · subst e
      have : x ≠ 0 := fun h => hn (by simp [h])
      unfold B32 at hx
      rw [vr, vr, Int.mul_zero, Int.add_zero, rl_pos (by omega), rl_zero (by unfold B32; omega), Int.emod_eq_of_lt (by omega) (by unfold B32; omega)]
    · have hn' : l.getLast? ≠ some 0 := by
        cases l with
        | nil => exact absurd rfl e
        | cons y l => simpa using hn
      have ih := rl_vr hl hn'
      have : 0 < vr l := by
        rcases Int.lt_or_eq_of_le v0 with h | h
        · exact h
        · rw [← h, rl_zero (by decide)] at ih; exact absurd ih.symm e
      unfold B32 at hx
      rw [vr, rl_pos (by unfold B32; omega)]
      rw [show (x + B32 * vr l) % B32 = x by unfold B32; omega, show (x + B32 * vr l) / B32 = vr l by unfold B32; omega, ih]
theorem vr_take : ∀ (l : List Int) (n : Nat), n < l.length → vr (l.take (n + 1)) = vr (l.take n) + nth 0 l n * B32 ^ n
  | [], n, h => by simp at h
  | x :: l, 0, h => by simp [vr, nth]
  | x :: l, n + 1, h => by
    have ih := vr_take l n (by simpa using h)
    simp only [List.take_succ_cons, vr, nth, ih, Int.pow_succ]
    rw [Int.mul_add, Int.mul_left_comm, Int.mul_comm (B32 ^ n) B32]
    omega
theorem nth_eq_get {l : List Int} {n : Nat} (h : n < l.length) : nth 0 l n = l[n] := by
  induction l generalizing n with
  | nil => simp at h
  | cons x l ih => cases n with
    | zero => rfl
    | succ n => simp only [nth, List.getElem_cons_succ]; exact ih (by simpa using h)
theorem norm_loop {K : Nat} (l : List Int) (hd : Dg l) (hl : l.length < 4294967296) : ∀ (k n : Nat), n < k → n ≤ l.length → vr (l.take n) = vr l →
    ∃ m : Nat, F.ref01_Norm_l2 K k l n = some (l, (m : Int)) ∧ m ≤ l.length ∧ l.take m = rl (vr l)
  | 0, n, h, _, _ => by omega
  | k + 1, n, h, hn, hv => by
    rw [F.ref01_Norm_l2]
    cases n with
    | zero =>
      refine ⟨0, by simp, by omega, ?_⟩
      rw [← hv]; simp [vr, rl_zero]
    | succ n =>
      have e := vr_take l n hn
      have c1 : ((n + 1 : Nat) : Int) > 0 := by omega
      have c2 : IntKind.i64.wrap (((n + 1 : Nat) : Int) - 1) = (n : Int) := by rw [iw (by omega) (by omega)]; omega
      have c3 : (n : Int) < (l.length : Int) := by omega
      rw [c2]
      by_cases z : nth 0 l n = 0
      · obtain ⟨m, g1, g2, g3⟩ := norm_loop l hd hl k n (by omega) (by omega) (by rw [← hv, e, z]; simp)
        refine ⟨m, ?_, g2, g3⟩
        simp [c3, z, g1]
        omega
      · refine ⟨n + 1, ?_, hn, ?_⟩
        · simp [c3, z]
        · have hlast : (l.take (n + 1)).getLast? ≠ some 0 := by
            rw [List.getLast?_eq_getElem?, List.length_take, Nat.min_eq_left hn, Nat.add_sub_cancel, List.getElem?_take, if_pos (by omega), List.getElem?_eq_getElem (by omega)]
            rw [nth_eq_get (by omega)] at z
            simpa using z
          rw [← hv, rl_vr (fun x hx => hd x (List.mem_of_mem_take hx)) hlast]
theorem norm_ok {K : Nat} {l : List Int} (hd : Dg l) (hK : l.length < K) (hl : l.length < 4294967296) : F.ref01_Norm K l = some (rl (vr l)) := by
  obtain ⟨m, h1, h2, h3⟩ := norm_loop (K := K) l hd hl K l.length hK (Nat.le_refl _) (by simp)
  have c : (m : Int) ≤ (l.length : Int) := by omega
  unfold F.ref01_Norm
  rw [h1]
  simp [c, h3]
theorem word_ok {K : Nat} (hK : 3 ≤ K) {x : Int} (h : Word x) : F.ref01_Word K x = some (rl x) := by
  unfold Word at h
  unfold F.ref01_Word
  rw [tm _ (by omega), td _ (by omega), uw (by omega) (by omega)]
  rw [norm_ok (by intro y hy; unfold B32; simp at hy; omega) (by simp; omega) (by simp)]
  simp only [vr, Option.bind_some]
  rw [show x % 4294967296 + B32 * (x / 4294967296 + B32 * 0) = x by unfold B32; omega]
end Go.Proofs.Ytppdgohcgklinaa.Wide
