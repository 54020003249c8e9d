/- The laws of accrue over spans of days: every mode rounds to the one or the other side, longer spans bear no less. Conditions: those named in each. -/
import Derived.Test.YtppdgohcgklinaaPAc
import Derived.Test.YtppdgohcgklinaaPCa
set_option linter.unusedVariables false
set_option linter.unusedSimpArgs false
namespace Go.Proofs.Ytppdgohcgklinaa.Wide
open Go Go.RowKit Go.Proofs.Ytppdgohcgklinaa.Vm
theorem span_fits {b r g dn m : Int} (b0 : 0 ≤ b) (b1 : b ≤ 1000000000) (r0 : 0 ≤ r) (r1 : r ≤ 1000000000) (g0 : 0 ≤ g) (d0 : 1 ≤ dn) (hg : g * 360 ≤ dn * 550) : 0 ≤ b * r * g ∧ roundS false (b * r * g) (1000 * dn) m ≤ 4000000000000000000 := by
  have m1 := mul_bd (a := b) (b := r) (A := 1000000000) (B := 1000000000) b0 b1 r0 r1
  have p := Int.mul_nonneg m1.1 g0
  have u := Int.mul_le_mul_of_nonneg_right (show b * r ≤ 1000000000000000000 by omega) g0
  exact ⟨p, round_le (by omega) (by omega)⟩
theorem u_mod (x m : Int) (m0 : 0 < m) (m1 : m ≤ 10000000000000000) : IntKind.i64.wrap ((IntKind.u64.wrap x).tmod m) = x % 18446744073709551616 % m := by
  have l := Int.emod_lt_of_pos (x % 18446744073709551616) m0
  have g := Int.emod_nonneg (x % 18446744073709551616) (show m ≠ 0 by omega)
  rw [wu, tm _ (by omega), iw (by omega) (by omega)]
theorem AccrueSpans {K : Nat} (hK : 20000 ≤ K) {x0 x1 x2 x3 x4 x5 x6 : Int} (h2 : 0 ≤ x2 ∧ x2 ≤ 255) (h3 : 0 ≤ x3 ∧ x3 ≤ 255) (h4 : 0 ≤ x4 ∧ x4 ≤ 65535) (h5 : 0 ≤ x5 ∧ x5 ≤ 255) (h6 : 0 ≤ x6 ∧ x6 ≤ 255) : F.law14_AccrueSpans K x0 x1 x2 x3 x4 x5 x6 = some true := by
  have hk : 400 ≤ K := by omega
  unfold F.law14_AccrueSpans
  simp only [bi_eq, aawake_ok hk, Option.bind_some]
  rw [if_neg (by decide), u_mod x0 1000000000 (by decide) (by decide), u_mod x1 1000000001 (by decide) (by decide)]
  rw [iw (x := x4) (by omega) (by omega), iw (x := x5) (by omega) (by omega), iw (x := x6) (by omega) (by omega), iw (x := 1 + x4) (by omega) (by omega), iw (x := 1 + x4 + x5) (by omega) (by omega), iw (x := 1 + x4 + x5 + x6) (by omega) (by omega)]
  rw [show IntKind.i64.wrap (x2.tmod 4) = x2 % 4 by rw [tm _ h2.1, iw (by omega) (by omega)], show IntKind.i64.wrap (x3.tmod 7) = x3 % 7 by rw [tm _ h3.1, iw (by omega) (by omega)]]
  generalize hb : x0 % 18446744073709551616 % 1000000000 = b
  generalize hr : x1 % 18446744073709551616 % 1000000001 = r
  generalize hm : x3 % 7 = m
  obtain ⟨g, dn, d0, d1, ga, gp, gm⟩ := part_grows hK (how := x2 % 4) (a := 1 + x4) (by omega) (by omega) (by omega)
  obtain ⟨p0, q0, s0⟩ := gp (1 + x4) (by omega) (by omega)
  obtain ⟨p1, q1, s1⟩ := gp (1 + x4 + x5) (by omega) (by omega)
  obtain ⟨p2, q2, s2⟩ := gp (1 + x4 + x5 + x6) (by omega) (by omega)
  have s1 := s1 (by omega)
  have s2 := s2 (by omega)
  have gg := gm (1 + x4 + x5) (1 + x4 + x5 + x6) (by omega) (by omega) (by omega)
  rw [ga] at p0
  generalize g (1 + x4 + x5) = g1 at *
  generalize g (1 + x4 + x5 + x6) = g2 at *
  have t := tok_one (r := r) (by omega) (by omega)
  rw [daily_ok hk t p0 (b := b) (m := m) (by omega) (by omega) (by decide) (by decide) (by omega) (by omega) (by omega) (by omega), Option.bind_some]
  rw [daily_ok hk t p1 (b := b) (m := m) (by omega) (by omega) (by omega) (by omega) (by omega) (by omega) (by omega) (by omega), Option.bind_some]
  rw [daily_ok hk t p2 (b := b) (m := m) (by omega) (by omega) (by omega) (by omega) (by omega) (by omega) (by omega) (by omega), Option.bind_some]
  unfold dailyR
  rw [bears_one (by omega)]
  obtain ⟨k1, f1⟩ := span_fits (b := b) (r := r) (g := g1) (dn := dn) (m := m) (by omega) (by omega) (by omega) (by omega) q1 d0 s1
  obtain ⟨k2, f2⟩ := span_fits (b := b) (r := r) (g := g2) (dn := dn) (m := m) (by omega) (by omega) (by omega) (by omega) q2 d0 s2
  have br : 0 ≤ b * r := Int.mul_nonneg (by omega) (by omega)
  have mo := roundS_mono (A := b * r * g1) (A' := b * r * g2) (B := 1000 * dn) (m := m) k1 (Int.mul_le_mul_of_nonneg_left gg br) (by omega)
  have nn := round_nn (A := b * r * g1) (B := 1000 * dn) (m := m) k1 (by omega)
  rw [Int.mul_zero, roundS_zero, if_pos (by decide), if_pos f1, if_pos f2]
  simp only [beq_self_eq_true, if_true]
  rw [if_pos (decide_eq_true (show _ ≥ (0 : Int) from nn)), decide_eq_true (show _ ≥ _ from mo)]
  simp
/-- What the seven modes give: the one or the other side. -/
theorem modes_two (A B m : Int) : roundS false A B m = roundS false A B 0 ∨ roundS false A B m = roundS false A B 1 := by
  rcases roundS_two false A B m with e | ⟨e, n⟩
  · left; rw [e, round_down]
  · right
    rw [e]; unfold roundS
    rw [if_neg n]; rfl
theorem modes_fill {K : Nat} (hK : 400 ≤ K) {x2 x4 b r f n dn : Int} (b0 : 0 ≤ b) (b1 : b ≤ 1000000000) (r0 : 0 ≤ r) (r1 : r ≤ 1000000000) (n0 : 0 ≤ n) (n1 : n ≤ 10000000000) (d0 : 1 ≤ dn) (d1 : dn ≤ 1000000) (hg : n * 360 ≤ dn * 550)
    (hp : F.basis_Part K (IntKind.i64.wrap (x2.tmod 4)) f (IntKind.i64.wrap (f + IntKind.i64.wrap x4)) = some (n, dn, 0)) : ∀ (k i : Nat) (l : List Int), i ≤ 7 → 7 - i < k → l.length = 7 → (∀ j : Nat, j < i → nth 0 l j = roundS false (b * r * n) (1000 * dn) j) →
    ∃ l', F.law14_AccrueModes_l8 K k x2 x4 b [[0, r]] f (i : Int) l = some (.inl l') ∧ l'.length = 7 ∧ ∀ j : Nat, j < 7 → nth 0 l' j = roundS false (b * r * n) (1000 * dn) j
  | 0, i, l, _, hk, _, _ => by omega
  | k + 1, i, l, hi, hk, hl, hh => by
    rw [F.law14_AccrueModes_l8, bi_eq]
    by_cases c : i < 7
    · rw [if_pos (by simp; omega), daily_ok hK (tok_one r0 r1) hp (b := b) (m := (i : Int)) b0 (by omega) n0 n1 d0 d1 (by omega) (by omega), Option.bind_some]
      obtain ⟨k1, f1⟩ := span_fits (m := (i : Int)) b0 b1 r0 r1 n0 d0 hg
      unfold dailyR
      rw [bears_one b0, if_pos f1]
      simp only [bi_eq]
      rw [if_neg (by decide), if_pos (by simp [hl]; omega), show IntKind.i64.wrap ((i : Int) + 1) = ((i + 1 : Nat) : Int) by rw [iw (by omega) (by omega)]; omega, Int.toNat_natCast]
      refine modes_fill hK b0 b1 r0 r1 n0 n1 d0 d1 hg hp k (i + 1) _ (by omega) (by omega) (by simpa using hl) fun j hj => ?_
      by_cases e : j = i
      · subst e; rw [nth_set _ (by omega)]
      · rw [nth_set_ne _ (by omega)]; exact hh j (by omega)
    · rw [if_neg (by simp; omega)]
      exact ⟨l, rfl, hl, fun j hj => hh j (by omega)⟩
theorem modes_check {K : Nat} {l : List Int} (hl : l.length = 7) (h : ∀ j, j < 7 → nth 0 l j = nth 0 l 0 ∨ nth 0 l j = nth 0 l 1) : ∀ (k i : Nat), i ≤ 7 → 7 - i < k → F.law14_AccrueModes_l16 K k (nth 0 l 0) (nth 0 l 1) (nth 0 l 2) (nth 0 l 3) (nth 0 l 4) (nth 0 l 5) (nth 0 l 6) (i : Int) l = some (.inl l)
  | 0, i, _, hk => by omega
  | k + 1, i, hi, hk => by
    rw [F.law14_AccrueModes_l16, bi_eq]
    by_cases c : i < 7
    · have ih := modes_check (K := K) hl h k (i + 1) (by omega) (by omega)
      have e : nth 0 [nth 0 l 0, nth 0 l 1, nth 0 l 2, nth 0 l 3, nth 0 l 4, nth 0 l 5, nth 0 l 6] i = nth 0 l i := by
        obtain rfl | rfl | rfl | rfl | rfl | rfl | rfl : i = 0 ∨ i = 1 ∨ i = 2 ∨ i = 3 ∨ i = 4 ∨ i = 5 ∨ i = 6 := by omega
        all_goals simp only [nth]
      simp only [bi_eq, Int.toNat_natCast, e, show IntKind.i64.wrap ((i : Int) + 1) = ((i + 1 : Nat) : Int) by rw [iw (by omega) (by omega)]; omega]
      rw [if_pos (by simp; omega), if_pos (by simp; omega), if_pos (by simp; omega)]
      by_cases c1 : nth 0 l i = nth 0 l 0
      · rw [if_neg (by simp [c1])]; exact ih
      · have c2 : nth 0 l i = nth 0 l 1 := (h i c).resolve_left c1
        rw [if_pos (by simpa using c1), if_pos (by simp; omega), if_neg (by simp [c2])]; exact ih
    · rw [if_neg (by simp; omega)]
theorem AccrueModes {K : Nat} (hK : 20000 ≤ K) {x0 x1 x2 x3 x4 : Int} (h2 : 0 ≤ x2 ∧ x2 ≤ 255) (h3 : 0 ≤ x3 ∧ x3 ≤ 65535) (h4 : 0 ≤ x4 ∧ x4 ≤ 255) : F.law14_AccrueModes K x0 x1 x2 x3 x4 = some true := by
  have hk : 400 ≤ K := by omega
  unfold F.law14_AccrueModes
  simp only [bi_eq, aawake_ok hk, Option.bind_some]
  rw [if_neg (by decide), u_mod x0 1000000000 (by decide) (by decide), u_mod x1 1000000001 (by decide) (by decide)]
  rw [iw (x := x3) (by omega) (by omega), iw (x := 1 + x3) (by omega) (by omega)]
  generalize hb : x0 % 18446744073709551616 % 1000000000 = b
  generalize hr : x1 % 18446744073709551616 % 1000000001 = r
  have hw : IntKind.i64.wrap (x2.tmod 4) = x2 % 4 := by rw [tm _ h2.1, iw (by omega) (by omega)]
  obtain ⟨g, dn, d0, d1, ga, gp, gm⟩ := part_grows hK (how := x2 % 4) (a := 1 + x3) (by omega) (by omega) (by omega)
  obtain ⟨p1, q1, s1⟩ := gp (1 + x3 + x4) (by omega) (by omega)
  have s1 := s1 (by omega)
  have p1' : F.basis_Part K (IntKind.i64.wrap (x2.tmod 4)) (1 + x3) (IntKind.i64.wrap (1 + x3 + IntKind.i64.wrap x4)) = some (g (1 + x3 + x4), dn, 0) := by rw [hw, iw (x := x4) (by omega) (by omega), iw (x := 1 + x3 + x4) (by omega) (by omega)]; exact p1
  generalize g (1 + x3 + x4) = n at *
  obtain ⟨l, e1, e2, e3⟩ := modes_fill hk (x2 := x2) (x4 := x4) (b := b) (r := r) (by omega) (by omega) (by omega) (by omega) q1 (by omega) d0 (by omega) s1 p1' K 0 [0, 0, 0, 0, 0, 0, 0] (by omega) (by omega) rfl (fun j hj => by omega)
  have e1' : F.law14_AccrueModes_l8 K K x2 x4 b [[0, r]] (1 + x3) 0 [0, 0, 0, 0, 0, 0, 0] = some (.inl l) := e1
  obtain ⟨k1, f1⟩ := span_fits (b := b) (r := r) (g := n) (dn := dn) (m := 1) (by omega) (by omega) (by omega) (by omega) q1 d0 s1
  generalize hA : b * r * n = A at *
  generalize hB : 1000 * dn = B at *
  have a0 := e3 0 (by decide)
  have a1 := e3 1 (by decide)
  have a2 := e3 2 (by decide)
  have a3 := e3 3 (by decide)
  have r0 : nth 0 l 0 = A / B := by rw [a0]; exact round_down A B
  have r1 : nth 0 l 1 = A / B + (if A % B = 0 then 0 else 1) := by rw [a1]; rfl
  have r2 : nth 0 l 2 = nth 0 l 0 := by
    rw [a2, r0]
    show A / B + (if A % B = 0 then 0 else 0) = _
    split <;> omega
  have r3 : nth 0 l 3 = nth 0 l 1 := by rw [a3, r1]; rfl
  have two : ∀ j, j < 7 → nth 0 l j = nth 0 l 0 ∨ nth 0 l j = nth 0 l 1 := fun j hj => by
    rw [e3 j hj, a0, a1]; exact modes_two A B j
  have ck := modes_check (K := K) e2 two K 0 (by omega) (by omega)
  have ck' : F.law14_AccrueModes_l16 K K (nth 0 l 0) (nth 0 l 1) (nth 0 l 2) (nth 0 l 3) (nth 0 l 4) (nth 0 l 5) (nth 0 l 6) 0 l = some (.inl l) := ck
  have q0 : 0 ≤ A / B := Int.ediv_nonneg k1 (by omega)
  have up : nth 0 l 1 ≤ 4000000000000000000 := by rw [a1]; exact f1
  have df : 0 ≤ nth 0 l 1 - nth 0 l 0 ∧ nth 0 l 1 - nth 0 l 0 ≤ 1 := by rw [r0, r1]; split <;> omega
  rw [e1']
  simp only [casO, Option.bind_some]
  rw [if_pos (by simp [e2]), ck']
  simp only [Option.bind_some, e2, r2, r3, beq_self_eq_true, if_true]
  rw [iw (x := nth 0 l 1 - nth 0 l 0) (by omega) (by omega), decide_eq_true (show nth 0 l 1 - nth 0 l 0 ≥ 0 from df.1), decide_eq_true df.2]
  rfl
namespace L
theorem AccrueSpans {a b c d e f g : Int} (w0 : (Lit.int .i64 a).wf = true) (w1 : (Lit.int .i64 b).wf = true) (w2 : (Lit.int .u8 c).wf = true) (w3 : (Lit.int .u8 d).wf = true) (w4 : (Lit.int .u16 e).wf = true) (w5 : (Lit.int .u8 f).wf = true) (w6 : (Lit.int .u8 g).wf = true) : F.law14_AccrueSpans 100000 a b c d e f g = some true := Wide.AccrueSpans (by decide) (wfU8 w2) (wfU8 w3) (wfU16 w4) (wfU8 w5) (wfU8 w6)
theorem AccrueModes {a b c d e : Int} (w0 : (Lit.int .i64 a).wf = true) (w1 : (Lit.int .i64 b).wf = true) (w2 : (Lit.int .u8 c).wf = true) (w3 : (Lit.int .u16 d).wf = true) (w4 : (Lit.int .u8 e).wf = true) : F.law14_AccrueModes 100000 a b c d e = some true := Wide.AccrueModes (by decide) (wfU8 w2) (wfU16 w3) (wfU8 w4)
end L
end Go.Proofs.Ytppdgohcgklinaa.Wide
