/- digits.Write and the reference's Write: one text. Conditions: none here. -/
import Derived.Test.YtfeifhlnidkbbaaGreatDoorPTa
import Derived.Test.YtfeifhlnidkbbaaGreatDoorPDv
import Derived.Test.YtfeifhlnidkbbaaGreatDoorPXa
set_option linter.unusedVariables false
set_option linter.unusedSimpArgs false
namespace Go.Proofs.YtfeifhlnidkbbaaGreatDoor.Wide
open Go Go.RowKit Go.Proofs.YtfeifhlnidkbbaaGreatDoor.Vm
def rw_ (N sc : Int) : Nat → List Int
  | 0 => []
  | n + 1 => rw_ N sc n ++ (if (n : Int) = sc ∧ 0 < n then [46] else []) ++ [48 + N / 10 ^ n % 10]
structure Dn (N sc : Int) (D : Nat) : Prop where
  one : 1 ≤ D
  most : D ≤ 39
  zero : N / 10 ^ D = 0
  sc1 : sc < D
  last : D = sc + 1 ∨ 0 < N / 10 ^ (D - 1)
theorem p10_mono {a b : Nat} (h : a ≤ b) : (10 : Int) ^ a ≤ 10 ^ b := by exact_mod_cast Nat.pow_le_pow_right (show 0 < 10 by decide) h
theorem dn_pos {N : Int} (h0 : 0 ≤ N) {a b : Nat} (h : a ≤ b) (hb : 0 < N / 10 ^ b) : 0 < N / 10 ^ a := by
  have h1 : 10 ^ b ≤ N := by
    rcases Int.lt_or_le N (10 ^ b) with h | h
    · rw [Int.ediv_eq_zero_of_lt h0 h] at hb; omega
    · exact h
  exact Int.lt_of_lt_of_le (by decide) ((Int.le_ediv_iff_mul_le (p10_pos a)).2 (by have := p10_mono h; omega) : 1 ≤ N / 10 ^ a)
theorem dn_zero {N : Int} (h0 : 0 ≤ N) {a b : Nat} (h : a ≤ b) (ha : N / 10 ^ a = 0) : N / 10 ^ b = 0 := by
  have h1 : N < 10 ^ a := by
    rcases Int.lt_or_le N (10 ^ a) with h | h
    · exact h
    · have := (Int.le_ediv_iff_mul_le (p10_pos a)).2 (show 1 * 10 ^ a ≤ N by omega); omega
  exact Int.ediv_eq_zero_of_lt h0 (by have := p10_mono h; omega)
theorem dn_ex {N sc : Int} (h0 : 0 ≤ N) (h1 : N < 340282366920938463463374607431768211456) (s0 : 0 ≤ sc) (s1 : sc ≤ 18) : ∃ D, Dn N sc D := by
  have top : N / 10 ^ 39 = 0 := Int.ediv_eq_zero_of_lt h0 (Int.lt_of_lt_of_le h1 (by decide))
  have : ∀ k : Nat, N / 10 ^ (sc.toNat + 1 + k) = 0 → sc.toNat + 1 + k ≤ 39 → ∃ D, Dn N sc D := by
    intro k
    induction k with
    | zero => intro h hk; exact ⟨sc.toNat + 1, ⟨by omega, by omega, h, by omega, .inl (by omega)⟩⟩
    | succ k ih =>
      intro h hk
      by_cases z : N / 10 ^ (sc.toNat + 1 + k) = 0
      · exact ih z (by omega)
      · refine ⟨sc.toNat + 1 + (k + 1), ⟨by omega, hk, h, by omega, .inr ?_⟩⟩
        have := Int.ediv_nonneg h0 (Int.le_of_lt (p10_pos (sc.toNat + 1 + k)))
        rw [show sc.toNat + 1 + (k + 1) - 1 = sc.toNat + 1 + k by omega]
        omega
  exact this (38 - sc.toNat) (by rw [show sc.toNat + 1 + (38 - sc.toNat) = 39 by omega]; exact top) (by omega)
theorem dn_more {N sc : Int} {D n : Nat} (h0 : 0 ≤ N) (d : Dn N sc D) (hn : n ≤ D) : (0 < N / 10 ^ n ∨ (n : Int) ≤ sc) ↔ n < D := by
  constructor
  · intro h
    rcases Nat.lt_or_ge n D with c | c
    · exact c
    · exfalso
      have : n = D := by omega
      subst this
      rcases h with h | h
      · have := d.zero; omega
      · have := d.sc1; omega
  · intro h
    rcases d.last with l | l
    · exact .inr (by omega)
    · exact .inl (dn_pos h0 (show n ≤ D - 1 by omega) l)
theorem rw_len (N sc : Int) : ∀ n : Nat, (rw_ N sc n).length ≤ 2 * n
  | 0 => Nat.le_refl _
  | n + 1 => by
    have := rw_len N sc n
    simp only [rw_, List.length_append, List.length_cons, List.length_nil]
    split <;> simp <;> omega
theorem wl_step {K k : Nat} (hK : 3 ≤ K) {N sc x y : Int} {D n : Nat} (h0 : 0 ≤ N) (h1 : N < 340282366920938463463374607431768211456) (s0 : 0 ≤ sc) (s1 : sc ≤ 18) (d : Dn N sc D) (hn : n < D) :
    F.digits_Write_l7 K (k + 1) (N / 10 ^ n / 18446744073709551616) (N / 10 ^ n % 18446744073709551616) (rw_ N sc n) (n : Int) x y sc = F.digits_Write_l7 K k (N / 10 ^ (n + 1) / 18446744073709551616) (N / 10 ^ (n + 1) % 18446744073709551616) (rw_ N sc (n + 1)) ((n + 1 : Nat) : Int) x y sc := by
  have more := (dn_more h0 d (by omega)).2 hn
  have m0 : 0 ≤ N / 10 ^ n := Int.ediv_nonneg h0 (Int.le_of_lt (p10_pos n))
  have m1 : N / 10 ^ n ≤ N := Int.ediv_le_self _ h0
  have hd := d.most
  have e0 := ediv_p10 N n
  have hr : rw_ N sc (n + 1) = rw_ N sc n ++ (if (n : Int) = sc ∧ 0 < n then [46] else []) ++ [48 + N / 10 ^ n % 10] := rfl
  have hlen := rw_len N sc n
  generalize rw_ N sc (n + 1) = R' at *
  generalize rw_ N sc n = R at *
  generalize N / 10 ^ n = M at *
  have t1 : (M / 18446744073709551616).tmod 10 = M / 18446744073709551616 % 10 := tm _ (by omega)
  have t2 : (M / 18446744073709551616).tdiv 10 = M / 18446744073709551616 / 10 := td _ (by omega)
  have dv := div64_val (K := K) hK (hi := M / 18446744073709551616 % 10) (lo := M % 18446744073709551616) (y := 10) ⟨by omega, by omega⟩ ⟨by omega, by omega⟩ ⟨by omega, by omega⟩
  have q1 : (M / 18446744073709551616 % 10 * 18446744073709551616 + M % 18446744073709551616) / 10 = N / 10 ^ (n + 1) % 18446744073709551616 := by rw [← e0]; omega
  have q2 : (M / 18446744073709551616 % 10 * 18446744073709551616 + M % 18446744073709551616) % 10 = M % 10 := by omega
  have q3 : IntKind.u64.wrap (M / 18446744073709551616 / 10) = N / 10 ^ (n + 1) / 18446744073709551616 := by rw [← e0, uw (by omega) (by omega)]; omega
  have q4 : IntKind.u8.wrap (IntKind.u64.wrap (48 + M % 10)) = 48 + M % 10 := by rw [uw (by omega) (by omega), wu8]; omega
  have q5 : IntKind.i64.wrap ((n : Int) + 1) = ((n + 1 : Nat) : Int) := by rw [iw (by omega) (by omega)]; omega
  rw [q1, q2] at dv
  have cap : ∀ l : List Int, l.length ≤ 200 → (decide (l.length + 1 ≤ 8796093022208)) = true := fun l h => by simp; omega
  have body : (bi ((n : Int) == sc) (bi (Decidable.decide ((n : Int) > 0)) (bi (Decidable.decide (R.length + 1 ≤ 8796093022208))
      ((F.bits_Div64 K ((M / 18446744073709551616).tmod 10) (M % 18446744073709551616) 10).bind fun r0 => (bi (Decidable.decide ((R ++ [46]).length + 1 ≤ 8796093022208))
      (F.digits_Write_l7 K k (Go.IntKind.u64.wrap ((M / 18446744073709551616).tdiv 10)) (r0.fst) (R ++ [46] ++ [Go.IntKind.u8.wrap (Go.IntKind.u64.wrap (48 + r0.snd))]) (Go.IntKind.i64.wrap ((n : Int) + 1)) x y sc) none)) none)
      ((F.bits_Div64 K ((M / 18446744073709551616).tmod 10) (M % 18446744073709551616) 10).bind fun r1 => (bi (Decidable.decide (R.length + 1 ≤ 8796093022208))
      (F.digits_Write_l7 K k (Go.IntKind.u64.wrap ((M / 18446744073709551616).tdiv 10)) (r1.fst) (R ++ [Go.IntKind.u8.wrap (Go.IntKind.u64.wrap (48 + r1.snd))]) (Go.IntKind.i64.wrap ((n : Int) + 1)) x y sc) none)))
      ((F.bits_Div64 K ((M / 18446744073709551616).tmod 10) (M % 18446744073709551616) 10).bind fun r2 => (bi (Decidable.decide (R.length + 1 ≤ 8796093022208))
      (F.digits_Write_l7 K k (Go.IntKind.u64.wrap ((M / 18446744073709551616).tdiv 10)) (r2.fst) (R ++ [Go.IntKind.u8.wrap (Go.IntKind.u64.wrap (48 + r2.snd))]) (Go.IntKind.i64.wrap ((n : Int) + 1)) x y sc) none))) = F.digits_Write_l7 K k (N / 10 ^ (n + 1) / 18446744073709551616) (N / 10 ^ (n + 1) % 18446744073709551616) R' ((n + 1 : Nat) : Int) x y sc := by
    simp only [t1, t2, dv, Option.bind_some, q3, q4, q5, bi_eq]
    rw [cap R (by omega), cap (R ++ [46]) (by simp; omega), if_pos rfl, if_pos rfl, if_pos rfl, hr]
    by_cases c : (n : Int) = sc
    · rw [if_pos (by simpa using c)]
      by_cases c2 : 0 < n
      · rw [if_pos (by simp; omega), if_pos ⟨c, c2⟩]
      · rw [if_neg (by simp; omega), if_neg (fun h => c2 h.2)]; simp
    · rw [if_neg (by simpa using c), if_neg (fun h => c h.1)]; simp
  rw [F.digits_Write_l7]
  rw [bi_eq]
  by_cases g1 : M / 18446744073709551616 > 0
  · rw [if_pos (by simpa using g1)]
    exact body
  · rw [if_neg (by simpa using g1), bi_eq]
    by_cases g2 : M % 18446744073709551616 > 0
    · rw [if_pos (by simpa using g2)]
      exact body
    · rw [if_neg (by simpa using g2), bi_eq, if_pos (by simp; omega)]
      exact body
theorem wl_loop {K : Nat} (hK : 3 ≤ K) {N sc x y : Int} {D : Nat} (h0 : 0 ≤ N) (h1 : N < 340282366920938463463374607431768211456) (s0 : 0 ≤ sc) (s1 : sc ≤ 18) (d : Dn N sc D) : ∀ (k n : Nat), n ≤ D → D - n < k →
    F.digits_Write_l7 K k (N / 10 ^ n / 18446744073709551616) (N / 10 ^ n % 18446744073709551616) (rw_ N sc n) (n : Int) x y sc = some (rw_ N sc D, x, y, sc)
  | 0, n, _, h => by omega
  | k + 1, n, hn, hk => by
    by_cases e : n = D
    · subst e
      have z := d.zero
      have := d.sc1
      rw [F.digits_Write_l7]
      simp only [bi_eq]
      rw [z, if_neg (by simp), if_neg (by simp), if_neg (by simp; omega)]
    · rw [wl_step hK h0 h1 s0 s1 d (by omega)]
      exact wl_loop hK h0 h1 s0 s1 d k (n + 1) (by omega) (by omega)
theorem turn_loop {K : Nat} {l : List Int} (hl : l.length ≤ 1000) : ∀ (k i : Nat) (m : List Int), m.length = l.length → 2 * i ≤ l.length + 1 → l.length < k + i → (∀ q, q < l.length → nth 0 m q = if q < i ∨ l.length - 1 - q < i then nth 0 l (l.length - 1 - q) else nth 0 l q) →
    F.digits_Write_l18 K k m (i : Int) ((l.length : Int) - 1 - i) = some l.reverse
  | 0, i, m, hm, hi, hk, hq => by omega
  | k + 1, i, m, hm, hi, hk, hq => by
    rw [F.digits_Write_l18]
    simp only [bi_eq]
    by_cases c : (i : Int) < (l.length : Int) - 1 - i
    · have ej : ((l.length : Int) - 1 - i) = ((l.length - 1 - i : Nat) : Int) := by omega
      rw [if_pos (by simpa using c), ej]
      simp only [Int.toNat_natCast, List.length_set]
      have c1 : (decide (0 ≤ ((l.length - 1 - i : Nat) : Int)) && decide (((l.length - 1 - i : Nat) : Int) < (m.length : Int))) = true := by simp; omega
      have c2 : (decide (0 ≤ (i : Int)) && decide ((i : Int) < (m.length : Int))) = true := by simp; omega
      rw [c1, c2]
      simp only [if_true]
      rw [iw (x := (i : Int) + 1) (by omega) (by omega), iw (x := ((l.length - 1 - i : Nat) : Int) - 1) (by omega) (by omega), show (i : Int) + 1 = ((i + 1 : Nat) : Int) by omega, show ((l.length - 1 - i : Nat) : Int) - 1 = (l.length : Int) - 1 - ((i + 1 : Nat) : Int) by omega]
      refine turn_loop hl k (i + 1) _ (by simp [hm]) (by omega) (by omega) fun q hql => ?_
      have ns : ∀ (m : List Int) (a b : Nat) (x : Int), nth 0 (m.set a x) b = if b = a ∧ a < m.length then x else nth 0 m b := fun m a b x => by rw [← put_eq, nth_put]
      rw [ns, ns, List.length_set]
      by_cases e1 : q = l.length - 1 - i
      · subst e1
        rw [if_pos ⟨rfl, by omega⟩, if_pos (by omega), hq i (by omega), if_neg (by omega)]
        congr 1
        omega
      · rw [if_neg (fun h => e1 h.1)]
        by_cases e2 : q = i
        · subst e2
          rw [if_pos ⟨rfl, by omega⟩, if_pos (by omega), hq (l.length - 1 - q) (by omega), if_neg (by omega)]
        · rw [if_neg (fun h => e2 h.1), hq q hql]
          by_cases e3 : q < i ∨ l.length - 1 - q < i
          · rw [if_pos e3, if_pos (by omega)]
          · rw [if_neg e3, if_neg (by omega)]
    · rw [if_neg (by simpa using c)]
      congr 1
      refine list_ext (by simp [hm]) fun q hql => ?_
      rw [nth_rev l (by omega), hq q (by omega)]
      by_cases e3 : q < i ∨ l.length - 1 - q < i
      · rw [if_pos e3]
      · rw [if_neg e3]
        congr 1
        omega
theorem turn_ok {K : Nat} {l : List Int} (hl : l.length ≤ 1000) (hK : 1001 < K) : F.digits_Write_l18 K K l 0 (IntKind.i64.wrap ((l.length : Int) - 1)) = some l.reverse := by
  rw [iw (by omega) (by omega)]
  have := turn_loop (K := K) hl K 0 l rfl (by omega) (by omega) fun q hq => by rw [if_neg (by omega)]
  simpa using this
def sgt (c : Int) : List Int := if c < 0 then [45] else []
def txtD (c sc : Int) (D : Nat) : List Int := sgt c ++ (rw_ (if c < 0 then -c else c) sc D).reverse
theorem size_ok2 (K : Nat) {a0 a1 a2 : Int} (ia : I64 a0) (la : Word a1) : F.digits_size K a0 a1 a2 = some (siz a0 a1 / 18446744073709551616, siz a0 a1 % 18446744073709551616) := by
  unfold F.digits_size siz cf
  unfold I64 at ia
  unfold Word at la
  simp only [bi_eq]
  have hx : a0 < 0 → lxor .u64 18446744073709551615 (IntKind.u64.wrap a0) = 18446744073709551615 - (a0 + 18446744073709551616) := fun h => by
    have e : IntKind.u64.wrap a0 = a0 + 18446744073709551616 := by rw [wu]; omega
    rw [e]
    obtain ⟨n, hn⟩ := Int.eq_ofNat_of_zero_le (show 0 ≤ a0 + 18446744073709551616 by omega)
    have hn2 : n < 18446744073709551616 := by omega
    rw [hn]
    unfold lxor
    have e1 : BitVec.ofInt 64 18446744073709551615 = BitVec.allOnes 64 := by decide
    have e2 : BitVec.ofInt 64 (n : Int) = BitVec.ofNat 64 n := BitVec.ofInt_natCast _ _
    show IntKind.u64.wrap (((BitVec.ofInt 64 18446744073709551615 ^^^ BitVec.ofInt 64 (n : Int)).toNat : Nat) : Int) = _
    rw [e1, e2, BitVec.allOnes_xor, BitVec.toNat_not, BitVec.toNat_ofNat, Nat.mod_eq_of_lt (by omega), wu]
    omega
  by_cases h : a0 < 0
  · rw [if_neg (by simp; omega), hx h, if_pos h]
    have e3 : IntKind.u64.wrap (0 - a1) = if a1 = 0 then 0 else 18446744073709551616 - a1 := by rw [wu]; split <;> omega
    rw [e3]
    by_cases z : a1 = 0
    · rw [if_pos z, if_pos (by simp), wu]
      congr 2
      · omega
      · omega
    · rw [if_neg z, if_neg (by simp; omega)]
      congr 2
      · omega
      · omega
  · rw [if_pos (by simp; omega), if_neg h, uw (by omega) (by omega)]
    congr 2
    · omega
    · omega
theorem sgt_neg {a0 a1 : Int} (la : Word a1) : (a0 < 0) ↔ cf a0 a1 < 0 := by unfold cf; unfold Word at la; omega
theorem siz_abs (a0 a1 : Int) (la : Word a1) : siz a0 a1 = if cf a0 a1 < 0 then -(cf a0 a1) else cf a0 a1 := by
  unfold siz
  by_cases h : a0 < 0
  · rw [if_pos h, if_pos ((sgt_neg la).1 h)]
  · rw [if_neg h, if_neg (fun k => h ((sgt_neg la).2 k))]
theorem dwrite_ok {K : Nat} (hK : 1100 ≤ K) {a0 a1 a2 : Int} {D : Nat} (ia : I64 a0) (la : Word a1) (f : Fm a0 a1 a2) (d : Dn (siz a0 a1) a2 D) : F.digits_Write K a0 a1 a2 = some (strOf (txtD (cf a0 a1) a2 D), 0) := by
  have fa := f
  unfold Fm at fa
  have sb := siz_bd ia la
  have hd := d.most
  have hl := rw_len (siz a0 a1) a2 D
  unfold F.digits_Write
  rw [check_ok, if_pos f, Option.bind_some, bi_eq, if_neg (by decide), size_ok2 K ia la, Option.bind_some]
  have w := wl_loop (K := K) (x := a0) (y := a1) (by omega) sb.1 (by omega) fa.1 fa.2.1 d K 0 (by omega) (by omega)
  simp only [Int.pow_zero, Int.ediv_one] at w
  have w : F.digits_Write_l7 K K (siz a0 a1 / 18446744073709551616) (siz a0 a1 % 18446744073709551616) [] 0 a0 a1 a2 = _ := w
  rw [w, Option.bind_some]
  simp only [bi_eq]
  unfold txtD sgt
  rw [← siz_abs a0 a1 la]
  by_cases h : a0 < 0
  · rw [if_pos (by simpa using h), if_pos (by simp; omega), turn_ok (by simp; omega) (by omega), Option.bind_some, if_pos ((sgt_neg la).1 h)]
    simp
  · rw [if_neg (by simpa using h), turn_ok (by omega) (by omega), Option.bind_some, if_neg (fun k => h ((sgt_neg la).2 k))]
    simp
end Go.Proofs.YtfeifhlnidkbbaaGreatDoor.Wide
