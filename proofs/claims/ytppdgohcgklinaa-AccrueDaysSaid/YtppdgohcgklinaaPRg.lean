/- The reference's numbers: products. Conditions: digits are digits, lists are short. -/
import Derived.Test.YtppdgohcgklinaaPRf
set_option linter.unusedVariables false
set_option linter.unusedSimpArgs false
namespace Go.Proofs.Ytppdgohcgklinaa.Wide
open Go Go.RowKit Go.Proofs.Ytppdgohcgklinaa.Vm
theorem vr_set : ∀ {l : List Int} {n : Nat} (x : Int), n < l.length → vr (l.set n x) = vr l + (x - nth 0 l n) * B32 ^ n
  | [], n, x, h => by simp at h
  | y :: l, 0, x, h => by simp [vr, nth]; omega
  | y :: l, n + 1, x, h => by
    have ih := vr_set (l := l) (n := n) x (by simpa using h)
    simp only [List.set_cons_succ, vr, nth, ih, Int.pow_succ]
    rw [Int.mul_add, Int.mul_left_comm, Int.mul_comm (B32 ^ n) B32]
    omega
theorem nth_set_ne : ∀ {l : List Int} {n m : Nat} (x : Int), n ≠ m → nth 0 (l.set n x) m = nth 0 l m
  | [], n, m, x, h => by simp
  | y :: l, 0, 0, x, h => absurd rfl h
  | y :: l, 0, m + 1, x, h => rfl
  | y :: l, n + 1, 0, x, h => rfl
  | y :: l, n + 1, m + 1, x, h => by
    simp only [List.set_cons_succ, nth]
    exact nth_set_ne x (by omega)
theorem times_inner {K : Nat} {l0 l1 : List Int} (d0 : Dg l0) (d1 : Dg l1) (h0 : l0.length ≤ 1000) (h1 : l1.length ≤ 1000) {i : Nat} (hi : i < l0.length) {x16 : Int} {V : Int} : ∀ (k j : Nat) (c : Int) (l5 : List Int), l5.length = l0.length + l1.length → Dg l5 → 0 ≤ c → c < B32 → (∀ p, i + l1.length ≤ p → nth 0 l5 p = 0) → vr l5 + c * B32 ^ (i + j) = V + nth 0 l0 i * vr (l1.take j) * B32 ^ i → j ≤ l1.length → l1.length - j < k →
    ∃ r c', F.ref01_Times_l7 K k l0 l1 l5 i c x16 i l1.length j = some (l0, l1, r, (i : Int), c', x16, (i : Int)) ∧ Dg r ∧ r.length = l0.length + l1.length ∧ 0 ≤ c' ∧ c' < B32 ∧ (∀ p, i + l1.length ≤ p → nth 0 r p = 0) ∧ vr r + c' * B32 ^ (i + l1.length) = V + nth 0 l0 i * vr l1 * B32 ^ i
  | 0, j, c, l5, _, _, _, _, _, _, _, h => by omega
  | k + 1, j, c, l5, h5, d5, c0, c1, hz, hv, hj, hk => by
    rw [F.ref01_Times_l7]
    have wij : IntKind.i64.wrap ((i : Int) + (j : Int)) = ((i + j : Nat) : Int) := by rw [iw (by omega) (by omega)]; omega
    rw [wij]
    simp only [Int.toNat_natCast]
    by_cases g : j < l1.length
    · have g' : (j : Int) < (l1.length : Int) := by omega
      have gi : (i : Int) < (l0.length : Int) := by omega
      have g5 : (i : Int) + (j : Int) < (l5.length : Int) := by omega
      have g5' : ((i + j : Nat) : Int) < (l5.length : Int) := by omega
      have bx := nth_bd d0 i
      have by' := nth_bd d1 j
      have bc := nth_bd d5 (i + j)
      have m := mul_le (a := nth 0 l0 i) (b := nth 0 l1 j) (A := 4294967295) (B := 4294967295) bx.1 (by unfold B32 at bx; omega) by'.1 (by unfold B32 at by'; omega)
      have w1 : IntKind.u64.wrap (nth 0 l0 i * nth 0 l1 j) = nth 0 l0 i * nth 0 l1 j := uw m.1 (by omega)
      have w2 : IntKind.u64.wrap (nth 0 l0 i * nth 0 l1 j + nth 0 l5 (i + j)) = nth 0 l0 i * nth 0 l1 j + nth 0 l5 (i + j) := uw (by omega) (by unfold B32 at bc; omega)
      have w3 : IntKind.u64.wrap (c + (nth 0 l0 i * nth 0 l1 j + nth 0 l5 (i + j))) = c + (nth 0 l0 i * nth 0 l1 j + nth 0 l5 (i + j)) := uw (by omega) (by unfold B32 at bc c1; omega)
      have wi1 : IntKind.i64.wrap ((j : Int) + 1) = ((j + 1 : Nat) : Int) := by rw [iw (by omega) (by omega)]; omega
      obtain ⟨t, ht⟩ : ∃ t, t = c + (nth 0 l0 i * nth 0 l1 j + nth 0 l5 (i + j)) := ⟨_, rfl⟩
      have t0 : 0 ≤ t := by omega
      have t1 : t < 18446744073709551616 := by unfold B32 at bc c1; omega
      have w4 : IntKind.u64.wrap (t / 4294967296) = t / 4294967296 := uw (by omega) (by omega)
      rw [w1, w2, w3, ← ht, tm _ t0, td _ t0, w4, wi1]
      have ih := times_inner (K := K) d0 d1 h0 h1 hi (x16 := x16) (V := V) k (j + 1) (t / B32) (l5.set (i + j) (t % B32)) (by simp [h5]) (dg_set d5 (by unfold B32; omega) (by unfold B32; omega)) (by unfold B32; omega) (by unfold B32; omega) (fun p hp => by rw [nth_set_ne _ (by omega)]; exact hz p hp) (by
        rw [vr_set _ (by omega), vr_take', show i + (j + 1) = (i + j) + 1 by omega, Int.pow_succ]
        have e := dm t (B32 ^ (i + j))
        have e2 : t * B32 ^ (i + j) = c * B32 ^ (i + j) + nth 0 l0 i * (nth 0 l1 j * B32 ^ j) * B32 ^ i + nth 0 l5 (i + j) * B32 ^ (i + j) := by
          rw [ht, Int.add_mul, Int.add_mul, Int.pow_add]
          simp only [Int.mul_comm, Int.mul_left_comm, Int.mul_assoc]
          omega
        rw [Int.sub_mul, Int.mul_add, Int.add_mul]
        omega) (by omega) (by omega)
      have gp : 0 ≤ (i : Int) + (j : Int) := by omega
      simpa [g', gi, g5, g5', gp] using ih
    · obtain rfl : j = l1.length := by omega
      rw [List.take_of_length_le (Nat.le_refl _)] at hv
      exact ⟨l5, c, by simp, d5, h5, c0, c1, hz, hv⟩
theorem times_outer {K : Nat} {l0 l1 : List Int} (hK : 2000 ≤ K) (d0 : Dg l0) (d1 : Dg l1) (h0 : l0.length ≤ 1000) (h1 : l1.length ≤ 1000) : ∀ (k i : Nat) (l5 : List Int), l5.length = l0.length + l1.length → Dg l5 → (∀ p, i + l1.length ≤ p → nth 0 l5 p = 0) → vr l5 = vr (l0.take i) * vr l1 → i ≤ l0.length → l0.length - i < k →
    ∃ r, F.ref01_Times_l3 K k l0 l1 l5 l0.length i = some r ∧ Dg r ∧ r.length = l0.length + l1.length ∧ vr r = vr l0 * vr l1
  | 0, i, l5, _, _, _, _, _, h => by omega
  | k + 1, i, l5, h5, d5, hz, hv, hi, hk => by
    rw [F.ref01_Times_l3]
    by_cases g : i < l0.length
    · have g' : (i : Int) < (l0.length : Int) := by omega
      obtain ⟨r, c, e1, e2, e3, e4, e5, e6, e7⟩ := times_inner (K := K) d0 d1 h0 h1 g (x16 := l0.length) (V := vr l5) K 0 0 l5 h5 d5 (by decide) (by decide) hz (by simp [vr]) (by omega) (by omega)
      have e1' : F.ref01_Times_l7 K K l0 l1 l5 i 0 l0.length i l1.length 0 = some (l0, l1, r, (i : Int), c, (l0.length : Int), (i : Int)) := e1
      have wij : IntKind.i64.wrap ((i : Int) + (l1.length : Int)) = ((i + l1.length : Nat) : Int) := by rw [iw (by omega) (by omega)]; omega
      have wi1 : IntKind.i64.wrap ((i : Int) + 1) = ((i + 1 : Nat) : Int) := by rw [iw (by omega) (by omega)]; omega
      have g5 : ((i + l1.length : Nat) : Int) < (r.length : Int) := by omega
      have g5' : (i : Int) + (l1.length : Int) < (r.length : Int) := by omega
      have z := e6 (i + l1.length) (by omega)
      have wc : IntKind.u64.wrap (0 + c) = c := by rw [Int.zero_add]; exact uw e4 (by unfold B32 at e5; omega)
      have ih := times_outer hK d0 d1 h0 h1 k (i + 1) (r.set (i + l1.length) c) (by simp [e3]) (dg_set e2 e4 e5) (fun p hp => by rw [nth_set_ne _ (by omega)]; exact e6 p (by omega)) (by
        rw [vr_set _ (by omega), z, Int.sub_zero, e7, hv, vr_take', Int.add_mul]
        simp only [Int.mul_comm, Int.mul_left_comm, Int.mul_assoc]) (by omega) (by omega)
      rw [e1']
      simp only [Option.bind_some, wij, Int.toNat_natCast, z, wc, wi1]
      have gp : 0 ≤ (i : Int) + (l1.length : Int) := by omega
      simpa [g', g5, g5', gp] using ih
    · obtain rfl : i = l0.length := by omega
      rw [List.take_of_length_le (Nat.le_refl _)] at hv
      exact ⟨l5, by simp, d5, h5, hv⟩
theorem times_ok {K : Nat} (hK : 4000 ≤ K) {a b : Int} (a0 : 0 ≤ a) (b0 : 0 ≤ b) (ha : (rl a).length ≤ 1000) (hb : (rl b).length ≤ 1000) : F.ref01_Times K (rl a) (rl b) = some (rl (a * b)) := by
  obtain ⟨N, hN⟩ : ∃ N, N = (rl a).length + (rl b).length := ⟨_, rfl⟩
  obtain ⟨r, h1, h2, h3, h4⟩ := times_outer (K := K) (by omega) (dg_rl a) (dg_rl b) ha hb K 0 (List.replicate N 0) (by simp [hN]) (dg_zeros _) (fun p hp => by
    by_cases h : p < N
    · rw [nth_eq_get (by simpa using h)]; simp
    · exact nth_out (by simp; omega)) (by simp [vr, vr_zeros]) (by omega) (by omega)
  have h1' : F.ref01_Times_l3 K K (rl a) (rl b) (List.replicate N 0) (rl a).length 0 = some r := h1
  rw [vr_rl a0, vr_rl b0] at h4
  have w : IntKind.i64.wrap (((rl a).length : Int) + ((rl b).length : Int)) = (N : Int) := by rw [iw (by omega) (by omega)]; omega
  unfold F.ref01_Times
  rw [w, Int.toNat_natCast, h1', if_pos (by simp; omega), Option.bind_some, norm_ok h2 (by omega) (by omega), h4, Option.bind_some]
end Go.Proofs.Ytppdgohcgklinaa.Wide
