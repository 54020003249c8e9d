/- The reference's numbers: shifts. Conditions: digits are digits, lists are short. -/
import Derived.Test.YtppdgohcgklinaaPRe
set_option linter.unusedVariables false
set_option linter.unusedSimpArgs false
namespace Go.Proofs.Ytppdgohcgklinaa.Wide
open Go Go.RowKit Go.Proofs.Ytppdgohcgklinaa.Vm
theorem vr_zeros : ∀ n : Nat, vr (List.replicate n 0) = 0
  | 0 => rfl
  | n + 1 => by rw [List.replicate_succ, vr, vr_zeros n]; rfl
theorem left_step_mul (u S x P Z t c : Int) (ht : t = x * S + c) (h : u + c * P = Z) : u + t % B32 * P + t / B32 * (P * B32) = Z + x * S * P := by
  have e := dm t P
  have e2 : t * P = x * S * P + c * P := by rw [ht, Int.add_mul]
  omega
theorem rleft_loop {K : Nat} {l : List Int} (d : Dg l) (hM : l.length ≤ 1000) {n : Int} {s z : Nat} (hs : n.tmod 32 = (s : Int)) (hs1 : s < 32) (hz : z ≤ 1000) : ∀ (k i : Nat) (c : Int) (l5 : List Int), l5.length = z + i → Dg l5 → 0 ≤ c → c < B32 → vr l5 + c * B32 ^ (z + i) = B32 ^ z * 2 ^ s * vr (l.take i) → i ≤ l.length → l.length - i < k →
    ∃ r c', F.ref01_Left_l4 K k n l5 c l l.length i = some (r, c') ∧ Dg r ∧ r.length = z + l.length ∧ 0 ≤ c' ∧ c' < B32 ∧ vr r + c' * B32 ^ (z + l.length) = B32 ^ z * 2 ^ s * vr l
  | 0, i, c, l5, _, _, _, _, _, _, h => by omega
  | k + 1, i, c, l5, h5, d5, c0, c1, hv, hi, hk => by
    rw [F.ref01_Left_l4, hs]
    simp only [Int.toNat_natCast]
    by_cases g : i < l.length
    · have g' : (i : Int) < (l.length : Int) := by omega
      have b := nth_bd d i
      have hS0 : (0 : Int) < 2 ^ s := Int.pow_pos (by decide)
      have hS1 : (2 : Int) ^ s ≤ 2147483648 := by
        have := pow_le (show s ≤ 31 by omega)
        have e : (2 : Int) ^ 31 = 2147483648 := by decide
        omega
      have m := mul_le (a := nth 0 l i) (b := 2 ^ s) (A := 4294967295) (B := 2147483648) b.1 (by unfold B32 at b; omega) (by omega) hS1
      have w1 : IntKind.u64.wrap (nth 0 l i * 2 ^ s) = nth 0 l i * 2 ^ s := uw m.1 (by omega)
      have w2 : IntKind.u64.wrap (nth 0 l i * 2 ^ s + c) = nth 0 l i * 2 ^ s + c := uw (by omega) (by unfold B32 at c1; omega)
      have w3 : IntKind.u64.wrap ((nth 0 l i * 2 ^ s + c) / 4294967296) = (nth 0 l i * 2 ^ s + c) / 4294967296 := uw (by omega) (by unfold B32 at c1; omega)
      have wi1 : IntKind.i64.wrap ((i : Int) + 1) = ((i + 1 : Nat) : Int) := by rw [iw (by omega) (by omega)]; omega
      have mn : min s 64 = s := by omega
      have L : l5.length + 1 ≤ 8796093022208 := by omega
      have sn : ¬ ((s : Int) < 0) := by omega
      have ih := rleft_loop (K := K) d hM hs hs1 hz k (i + 1) ((nth 0 l i * 2 ^ s + c) / B32) (l5 ++ [(nth 0 l i * 2 ^ s + c) % B32]) (by rw [List.length_append]; simp; omega) (dg_append d5 (by unfold B32; omega) (by unfold B32; omega)) (by unfold B32 at *; omega) (by unfold B32 at *; omega) (by
        rw [vr_append, vr_take', h5, show z + (i + 1) = (z + i) + 1 by omega, Int.pow_succ]
        have e := left_step_mul (vr l5) (2 ^ s) (nth 0 l i) (B32 ^ (z + i)) _ _ c rfl hv
        rw [e, Int.mul_add]
        congr 1
        rw [Int.pow_add]
        simp only [Int.mul_comm, Int.mul_left_comm, Int.mul_assoc]) (by omega) (by omega)
      rw [mn, w1, w2, tm _ (by omega), td _ (by omega), w3, wi1]
      simpa [g', L, sn] using ih
    · obtain rfl : i = l.length := by omega
      rw [List.take_of_length_le (Nat.le_refl _)] at hv
      exact ⟨l5, c, by simp, d5, h5, c0, c1, hv⟩
theorem rleft_ok {K : Nat} (hK : 4000 ≤ K) {a n : Int} (a0 : 0 ≤ a) (ha : (rl a).length ≤ 1000) (n0 : 0 ≤ n) (n1 : n ≤ 30000) : F.ref01_Left K (rl a) n = some (rl (a * 2 ^ n.toNat)) := by
  obtain ⟨z, hz⟩ : ∃ z : Nat, (z : Int) = n / 32 := ⟨(n / 32).toNat, by omega⟩
  obtain ⟨s, hs⟩ : ∃ s : Nat, (s : Int) = n % 32 := ⟨(n % 32).toNat, by omega⟩
  have e1 : n.tdiv 32 = (z : Int) := by rw [td _ n0]; omega
  have e2 : n.tmod 32 = (s : Int) := by rw [tm _ n0]; omega
  have w : IntKind.i64.wrap (z : Int) = (z : Int) := iw (by omega) (by omega)
  obtain ⟨r, c, h1, h2, h3, h4, h5, h6⟩ := rleft_loop (K := K) (dg_rl a) ha e2 (by omega) (z := z) (by omega) K 0 0 (List.replicate z 0) (by simp) (dg_zeros z) (by decide) (by decide) (by simp [vr, vr_zeros]) (by omega) (by omega)
  have h1' : F.ref01_Left_l4 K K n (List.replicate z 0) 0 (rl a) (rl a).length 0 = some (r, c) := h1
  rw [vr_rl a0] at h6
  unfold F.ref01_Left
  rw [e1, w, Int.toNat_natCast, h1', if_pos (by simp; omega), Option.bind_some]
  have L : r.length + 1 ≤ 8796093022208 := by omega
  have hn := norm_ok (K := K) (l := r ++ [c]) (dg_append h2 h4 h5) (by simp; omega) (by simp; omega)
  have hp : B32 ^ z * 2 ^ s = 2 ^ n.toNat := by rw [b32_pow, ← Int.pow_add]; congr 1; omega
  rw [vr_append, h3, h6, hp, Int.mul_comm] at hn
  simp only [hn]
  rw [if_pos (by simpa using L), Option.bind_some]
end Go.Proofs.Ytppdgohcgklinaa.Wide
