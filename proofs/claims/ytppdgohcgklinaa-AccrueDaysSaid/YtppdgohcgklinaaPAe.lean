/- The law of days: accrue answers as the reference does, errors too, and leaves what came in as it was. Conditions: the tiers within the form's reach. -/
import Derived.Test.YtppdgohcgklinaaPAc
import Derived.Test.YtppdgohcgklinaaPCa
import Derived.Test.YtppdgohcgklinaaPRj
set_option linter.unusedVariables false
set_option linter.unusedSimpArgs false
namespace Go.Proofs.Ytppdgohcgklinaa.Wide
open Go Go.RowKit Go.Proofs.Ytppdgohcgklinaa.Vm Go.Proofs.Ytppdgohcgklinaa.CalM
def zc (q : List (List Int)) : Int := if Tok q then 0 else if 8 < q.length then 2 else 3
theorem zc_two (q : List (List Int)) : zc q = 0 ∨ 2 ≤ zc q := by unfold zc; split <;> (try split) <;> omega
theorem zc_zero {q : List (List Int)} : zc q = 0 ↔ Tok q := by
  unfold zc
  by_cases h : Tok q
  · simp [h]
  · rw [if_neg h]; constructor
    · intro g; split at g <;> omega
    · intro g; exact (h g).elim
theorem tiers_val {K : Nat} (hK : 100 ≤ K) (q : List (List Int)) : F.prod_Tiers K q = some (zc q) := by
  unfold zc
  by_cases h : Tok q
  · rw [if_pos h, tiers_ok K hK q h]
  · rw [if_neg h, tiers_bad K hK q h]
/-- What the reference refuses in a tier. -/
def RB (q : List (List Int)) (i : Nat) : Prop := (i = 0 ∧ fr q 0 ≠ 0) ∨ TB q i
instance (q : List (List Int)) (i : Nat) : Decidable (RB q i) := by unfold RB; infer_instance
def before (q : List (List Int)) (i : Nat) : Int := if i = 0 then -1 else fr q (i - 1)
theorem rtier_step {K k : Nat} {q : List (List Int)} (hq : q.length ≤ 1000) {i : Nat} (hi : i < q.length) : F.ref12_Tiers_l5 K (k + 1) q (before q i) q (q.length : Int) (i : Int) = if RB q i then some (.inr 3) else F.ref12_Tiers_l5 K k q (before q (i + 1)) q (q.length : Int) ((i + 1 : Nat) : Int) := by
  rw [F.ref12_Tiers_l5]
  have w1 : IntKind.i64.wrap ((i : Int) + 1) = ((i + 1 : Nat) : Int) := by rw [iw (by omega) (by omega)]; omega
  simp only [bi_eq, w1, Int.toNat_natCast]
  rw [if_pos (by simp; omega), if_pos (by simp; omega)]
  have bs : before q (i + 1) = nth 0 (nth [] q i) 0 := by unfold before; rw [if_neg (by omega)]; rfl
  rw [bs]
  unfold before
  by_cases c0 : i = 0
  · subst c0
    rw [if_pos (by decide)]
    have R0 : RB q 0 ↔ (nth 0 (nth [] q 0) 0 ≠ 0 ∨ nth 0 (nth [] q 0) 1 < 0 ∨ 1000000000 < nth 0 (nth [] q 0) 1) := by unfold RB TB fr rt; omega
    by_cases a1 : nth 0 (nth [] q 0) 0 = 0
    · rw [if_neg (show ¬ ((nth 0 (nth [] q 0) 0 != 0) = true) by simpa using a1), if_neg (by simp; omega), if_neg (by simp; omega)]
      by_cases a2 : nth 0 (nth [] q 0) 1 < 0
      · rw [if_pos (by simpa using a2), if_pos (R0.2 (by omega))]
      · rw [if_neg (by simpa using a2)]
        by_cases a3 : nth 0 (nth [] q 0) 1 > 1000000000
        · rw [if_pos (by simpa using a3), if_pos (R0.2 (by omega))]
        · rw [if_neg (by simpa using a3), if_neg (fun h => by have := R0.1 h; omega)]
    · rw [if_pos (by simpa using a1), if_pos (R0.2 (by omega))]
  · rw [if_neg (by simp; omega)]
    simp only [if_neg c0]
    have R1 : RB q i ↔ (nth 0 (nth [] q i) 0 ≤ nth 0 (nth [] q (i - 1)) 0 ∨ 10000000000000 < nth 0 (nth [] q i) 0 ∨ nth 0 (nth [] q i) 1 < 0 ∨ 1000000000 < nth 0 (nth [] q i) 1) := by unfold RB TB fr rt; omega
    by_cases a1 : nth 0 (nth [] q i) 0 ≤ nth 0 (nth [] q (i - 1)) 0
    · rw [if_pos (by simpa using a1), if_pos (R1.2 (by omega))]
    · rw [if_neg (by simpa using a1)]
      by_cases a4 : nth 0 (nth [] q i) 0 > 10000000000000
      · rw [if_pos (by simpa using a4), if_pos (R1.2 (by omega))]
      · rw [if_neg (by simpa using a4)]
        by_cases a2 : nth 0 (nth [] q i) 1 < 0
        · rw [if_pos (by simpa using a2), if_pos (R1.2 (by omega))]
        · rw [if_neg (by simpa using a2)]
          by_cases a3 : nth 0 (nth [] q i) 1 > 1000000000
          · rw [if_pos (by simpa using a3), if_pos (R1.2 (by omega))]
          · rw [if_neg (by simpa using a3), if_neg (fun h => by have := R1.1 h; omega)]
theorem rtiers_loop {K : Nat} {q : List (List Int)} (hq : q.length ≤ 1000) : ∀ (k i : Nat), i ≤ q.length → q.length - i < k → ((∀ j, i ≤ j → j < q.length → ¬ RB q j) → F.ref12_Tiers_l5 K k q (before q i) q (q.length : Int) (i : Int) = some (.inl q)) ∧
    ((∃ j, i ≤ j ∧ j < q.length ∧ RB q j) → F.ref12_Tiers_l5 K k q (before q i) q (q.length : Int) (i : Int) = some (.inr 3))
  | 0, i, _, h => by omega
  | k + 1, i, hi, h => by
    by_cases c : i < q.length
    · have ih := rtiers_loop (K := K) hq k (i + 1) (by omega) (by omega)
      rw [rtier_step hq c]
      constructor
      · intro hn
        rw [if_neg (hn i (Nat.le_refl _) c)]
        exact ih.1 fun j h1 h2 => hn j (by omega) h2
      · rintro ⟨j, h1, h2, h3⟩
        by_cases t : RB q i
        · rw [if_pos t]
        · rw [if_neg t]
          have : j ≠ i := fun e => t (e ▸ h3)
          exact ih.2 ⟨j, by omega, h2, h3⟩
    · constructor
      · intro _
        rw [F.ref12_Tiers_l5, bi_eq, if_neg (by simp; omega)]
      · rintro ⟨j, h1, h2, _⟩; omega
theorem rtiers_val {K : Nat} (hK : 100 ≤ K) (q : List (List Int)) : F.ref12_Tiers K q = some (zc q) := by
  unfold F.ref12_Tiers zc
  simp only [bi_eq]
  by_cases a1 : 8 < q.length
  · rw [if_pos (by simp; omega), if_neg (fun h : Tok q => by have := h.2.1; omega), if_pos a1]
  · rw [if_neg (by simp; omega)]
    have lo := rtiers_loop (K := K) (q := q) (by omega) K 0 (by omega) (by omega)
    have b0 : before q 0 = -1 := rfl
    rw [b0] at lo
    by_cases t : Tok q
    · rw [if_pos t]
      have nb : ∀ j, 0 ≤ j → j < q.length → ¬ RB q j := fun j _ hj hb => by
        rcases hb with ⟨e, h⟩ | h
        · exact h t.2.2.1
        · exact t.2.2.2 j hj h
      have e := lo.1 nb
      have e' : F.ref12_Tiers_l5 K K q (-1) q (q.length : Int) 0 = some (.inl q) := e
      rw [e']
      simp only [casO, Option.bind_some]
      rw [if_neg (by have := t.1; simp; intro g; rw [g] at this; simp at this)]
    · rw [if_neg t, if_neg a1]
      by_cases e0 : q.length = 0
      · have nb : ∀ j, 0 ≤ j → j < q.length → ¬ RB q j := fun j _ hj => by omega
        have e' : F.ref12_Tiers_l5 K K q (-1) q (q.length : Int) 0 = some (.inl q) := lo.1 nb
        rw [e']
        simp only [casO, Option.bind_some]
        rw [if_pos (by simp [e0])]
      · have ex : ∃ j, 0 ≤ j ∧ j < q.length ∧ RB q j := by
          apply Classical.byContradiction
          intro hn
          apply t
          refine ⟨by omega, by omega, ?_, fun i hi hb => hn ⟨i, by omega, hi, .inr hb⟩⟩
          apply Classical.byContradiction
          intro h0
          exact hn ⟨0, by omega, by omega, .inl ⟨rfl, h0⟩⟩
        have e' : F.ref12_Tiers_l5 K K q (-1) q (q.length : Int) 0 = some (.inr 3) := lo.2 ex
        rw [e']
        rfl
theorem rparts_loop {K : Nat} {q : List (List Int)} (h : Tok q) {b : Int} (b0 : 0 ≤ b) (b1 : b ≤ 10000000000000) : ∀ (k i : Nat), i ≤ q.length → q.length - i < k →
    F.ref14_Parts_l3 K k b q ((List.range i).map (pt q b)) q (q.length : Int) (i : Int) = some (ptl q b)
  | 0, i, _, hk => by omega
  | k + 1, i, hi, hk => by
    have hq8 := h.2.1
    rw [F.ref14_Parts_l3, bi_eq]
    by_cases c : i < q.length
    · have ih := rparts_loop (K := K) h b0 b1 k (i + 1) (by omega) (by omega)
      rw [List.range_succ, List.map_append] at ih
      have w1 : IntKind.i64.wrap ((i : Int) + 1) = ((i + 1 : Nat) : Int) := by rw [iw (by omega) (by omega)]; omega
      have t := tok_bd h c
      rw [if_pos (by simp; omega)]
      simp only [bi_eq, w1, Int.toNat_natCast]
      rw [if_pos (by simp; omega)]
      have ll : ((List.range i).map (pt q b)).length + 1 ≤ 8796093022208 := by simp; omega
      have e3 : ¬ (i + 1 < q.length ∧ fr q (i + 1) < b) → (if 0 > IntKind.i64.wrap (b - nth 0 (nth [] q i) 0) then 0 else IntKind.i64.wrap (b - nth 0 (nth [] q i) 0)) = pt q b i := fun hn => by
        have t0 := t.1; have t1 := t.2.1
        unfold pt
        unfold fr at *
        rw [iw (x := b - nth 0 (nth [] q i) 0) (by omega) (by omega), if_neg hn]
        by_cases g : b ≤ nth 0 (nth [] q i) 0
        · rw [if_pos g]; split <;> omega
        · rw [if_neg g, if_neg (by omega)]
      by_cases c2 : i + 1 < q.length
      · have t2 := tok_bd h c2
        have mo := tok_mono h 1 i c2
        rw [if_pos (by simp; omega), if_pos (by simp; omega)]
        by_cases c3 : fr q (i + 1) < b
        · rw [if_pos (by simpa using c3), if_pos (by simp; omega), if_pos (decide_eq_true ll)]
          have e4 : (if 0 > IntKind.i64.wrap (nth 0 (nth [] q (i + 1)) 0 - nth 0 (nth [] q i) 0) then 0 else IntKind.i64.wrap (nth 0 (nth [] q (i + 1)) 0 - nth 0 (nth [] q i) 0)) = pt q b i := by
            unfold pt
            unfold fr at *
            rw [iw (x := nth 0 (nth [] q (i + 1)) 0 - nth 0 (nth [] q i) 0) (by omega) (by omega), if_neg (by omega), if_neg (by omega), if_pos ⟨c2, c3⟩]
          rw [e4]
          exact ih
        · rw [if_neg (by simpa using c3), if_pos (decide_eq_true ll), e3 (fun x => c3 x.2)]
          exact ih
      · rw [if_neg (by simp; omega), if_pos (decide_eq_true ll), e3 (fun x => c2 x.1)]
        exact ih
    · rw [if_neg (by simp; omega), show i = q.length by omega]; rfl
theorem rparts_ok {K : Nat} (hK : 100 ≤ K) {q : List (List Int)} (h : Tok q) {b : Int} (b0 : 0 ≤ b) (b1 : b ≤ 10000000000000) : F.ref14_Parts K b q = some (ptl q b) := by
  have lo := rparts_loop (K := K) h b0 b1 K 0 (by omega) (by have := h.2.1; omega)
  have lo' : F.ref14_Parts_l3 K K b q [] q (q.length : Int) 0 = some (ptl q b) := lo
  unfold F.ref14_Parts
  rw [lo', Option.bind_some]
theorem docparts_ok {K : Nat} (hK : 400 ≤ K) {q : List (List Int)} {b : Int} : F.ref14_DocParts K b q = F.accrue_Parts K b q := by
  have am : F.ref14_amount K b = some (decide (0 ≤ b ∧ b ≤ 10000000000000)) := amount_ok K b
  unfold F.ref14_DocParts F.accrue_Parts
  rw [am, Option.bind_some, amount_ok, Option.bind_some, rtiers_val (by omega), tiers_val (by omega), Option.bind_some, Option.bind_some]
  by_cases c : 0 ≤ b ∧ b ≤ 10000000000000
  · simp only [bi_eq]
    rw [if_neg (show ¬ ((!decide (0 ≤ b ∧ b ≤ 10000000000000)) = true) by simp; omega), if_neg (show ¬ ((!decide (0 ≤ b ∧ b ≤ 10000000000000)) = true) by simp; omega)]
    by_cases t : Tok q
    · rw [zc_zero.2 t, if_neg (by decide), if_neg (by decide), rparts_ok (by omega) t c.1 c.2, aparts_ok (by omega) t c.1 c.2]
    · have z : zc q ≠ 0 := fun e => t (zc_zero.1 e)
      rw [if_pos (show (zc q != 0) = true by simpa using z), if_pos (show (zc q != 0) = true by simpa using z)]
  · simp only [bi_eq]
    rw [if_pos (by simp; omega), if_pos (by simp; omega)]
theorem made_pos {K : Nat} (hK : 3 ≤ K) {x : Int} (h0 : 0 ≤ x) (h1 : x ≤ 9223372036854775807) : F.ref01_Made K x = some (false, rl x) := by
  rw [made_ok hK (show I64 x by unfold I64; omega), if_neg (show ¬ x < 0 by omega), show decide (x < 0) = false by simp; omega]
theorem prod_pos {K : Nat} (hK : 4000 ≤ K) {A B : Int} (a0 : 0 ≤ A) (a1 : A < TOP) (b0 : 0 ≤ B) (b1 : B < TOP) : F.ref01_Product K false (rl A) false (rl B) = some (false, rl (A * B)) := product_ok hK a0 a1 b0 b1
theorem sum_pos {K : Nat} (hK : 2000 ≤ K) {A B : Int} (a0 : 0 ≤ A) (a1 : A < TOP) (b0 : 0 ≤ B) (b1 : B < TOP) : F.ref01_Sum K false (rl A) false (rl B) = some (false, rl (A + B)) := by
  rw [sum_ok hK a0 a1 b0 b1]; rfl
theorem rdaily_loop {K : Nat} (hK : 40000 ≤ K) {q : List (List Int)} (h : Tok q) {l : List Int} (hll : l.length = q.length) (hl : ∀ j, j < q.length → 0 ≤ nth 0 l j ∧ nth 0 l j ≤ 10000000000000) (x2 x3 x4 x5 : Int) (c12 : Bool) (l12 : List Int) : ∀ (k i : Nat), i ≤ q.length → q.length - i < k →
    F.ref14_Daily_l3 K k q x2 x3 x4 x5 l (l.length : Int) (i : Int) c12 l12 false (rl (dsum q l i)) = some (x2, x3, x4, x5, c12, l12, false, rl (dsum q l q.length))
  | 0, i, _, hk => by omega
  | k + 1, i, hi, hk => by
    have hq8 := h.2.1
    rw [F.ref14_Daily_l3, bi_eq]
    by_cases c : i < q.length
    · have ih := rdaily_loop hK h hll hl x2 x3 x4 x5 c12 l12 k (i + 1) (by omega) (by omega)
      have t := tok_bd h c
      have p := hl i c
      have d := dsum_bd h hl i hi
      have m := mul_bd p.1 p.2 t.2.2.1 t.2.2.2
      have tp : TOP = 39402006196394479212279040100143613805079739270465446667948293404245721771497210611414266254884915640806627990306816 := rfl
      rw [if_pos (by simp; omega)]
      simp only [bi_eq, Int.toNat_natCast]
      rw [if_pos (by simp; omega), made_pos (by omega) p.1 (by omega), Option.bind_some, if_pos (by simp; omega), made_pos (by omega) t.2.2.1 (by unfold rt at *; omega), Option.bind_some]
      simp only
      rw [prod_pos (by omega) p.1 (by omega) t.2.2.1 (by unfold rt at *; omega), Option.bind_some]
      simp only
      rw [sum_pos (by omega) d.1 (by omega) m.1 (by omega), Option.bind_some]
      simp only
      rw [show IntKind.i64.wrap ((i : Int) + 1) = ((i + 1 : Nat) : Int) by rw [iw (by omega) (by omega)]; omega]
      exact ih
    · rw [if_neg (by simp; omega), show i = q.length by omega]
theorem rdaily_ok {K : Nat} (hK : 40000 ≤ K) {q : List (List Int)} (h : Tok q) {b how f t n d m : Int} (hp : F.ref04_Part K how f t = some (n, d)) (b0 : 0 ≤ b) (b1 : b ≤ 10000000000000) (n0 : 0 ≤ n) (n1 : n ≤ 10000000000) (d0 : 1 ≤ d) (d1 : d ≤ 1000000) (m0 : 0 ≤ m) (m1 : m ≤ 6) :
    F.ref14_Daily K b q how m f t = some (false, rl (roundS false (bears q b * n) (1000 * d) m)) := by
  have hll : (ptl q b).length = q.length := by simp [ptl]
  have tp : TOP = 39402006196394479212279040100143613805079739270465446667948293404245721771497210611414266254884915640806627990306816 := rfl
  have lo := rdaily_loop hK h hll (ptl_nth h b0 b1) how m f t false [] K 0 (by omega) (by have := h.2.1; omega)
  have z0 : rl (dsum q (ptl q b) 0) = [] := rl_zero (by simp [dsum])
  rw [z0] at lo
  have lo' : F.ref14_Daily_l3 K K q how m f t (ptl q b) ((ptl q b).length : Int) 0 false [] false [] = some (how, m, f, t, false, [], false, rl (bears q b)) := lo
  have bb := bears_bd h b0 b1
  have bm := mul_bd bb.1 bb.2 n0 n1
  unfold F.ref14_Daily
  rw [rparts_ok (by omega) h b0 b1, Option.bind_some, lo', Option.bind_some]
  simp only
  rw [hp, Option.bind_some]
  simp only
  rw [made_pos (by omega) n0 (by omega), Option.bind_some]
  simp only
  rw [prod_pos (by omega) bb.1 (by omega) n0 (by omega), Option.bind_some, made_pos (by omega) (by decide) (by decide), Option.bind_some]
  simp only
  rw [prod_pos (by omega) bm.1 (by omega) (by decide) (by decide), Option.bind_some, uw (x := d) (by omega) (by omega), word_ok (by omega) (show Word d by unfold Word; omega), Option.bind_some, rten_ok (by omega) (by decide) (by decide), Option.bind_some]
  have p9 : p10z 9 = 1000000000 := by decide
  rw [p9, times_ok (by omega) (by omega) (by decide) (by have := len_top (a := d) (by omega); omega) (by have := len_top (a := 1000000000) (by decide); omega), Option.bind_some]
  simp only
  rw [rrounded_ok hK (by omega) (by omega) (by omega) (by omega) m0 m1, Option.bind_some]
  rw [show d * 1000000000 = 1000 * d * 1000000 by omega, roundS_scale (by omega) (by decide)]
/-- Which error is told: the least. -/
def errR (z c : Int) : Int := if z = 0 then c else if c = 0 then z else if z < c then z else c
theorem sel_bad {lo hi am : Bool} {z c : Int} (hz : z = 0 ∨ 2 ≤ z) (hb : am = false ∨ lo = true ∨ hi = true) {M1 M2 M3 R : Option (Int × Int)} :
    bi (!am) (bi (z != 0) (bi (decide (z < 1)) M1 (some (0, 1))) (some (0, 1))) (bi lo (bi (z != 0) (bi (decide (z < 1)) M2 (some (0, 1))) (some (0, 1))) (bi hi (bi (z != 0) (bi (decide (z < 1)) M3 (some (0, 1))) (some (0, 1))) R)) = some ((0, 1) : Int × Int) := by
  have tail : ∀ M : Option (Int × Int), bi (z != 0) (bi (decide (z < 1)) M (some (0, 1))) (some (0, 1)) = some ((0, 1) : Int × Int) := fun M => by
    rcases hz with e | e
    · simp [bi_eq, e]
    · have h1 : ¬ z < 1 := by omega
      simp [bi_eq, h1]
  rw [tail, tail, tail]
  simp only [bi_eq]
  cases am
  · rfl
  · cases lo
    · cases hi
      · simp at hb
      · rfl
    · rfl
theorem sel_good {z c : Int} (he : ¬ (z = 0 ∧ c = 0)) {M1 M2 M3 M4 : Option (Int × Int)} :
    bi (z != 0) (bi (c == 0) (bi (z != 0) (some (0, z)) M1) (bi (decide (z < c)) (bi (z != 0) (some (0, z)) M2) (bi (c != 0) (some (0, c)) M3))) (bi (c != 0) (some (0, c)) M4) = some (((0 : Int), errR z c) : Int × Int) := by
  unfold errR
  simp only [bi_eq]
  by_cases z0 : z = 0
  · have c0 : c ≠ 0 := fun e => he ⟨z0, e⟩
    simp [z0, c0]
  · by_cases c0 : c = 0
    · simp [z0, c0]
    · by_cases l : z < c
      · simp [z0, c0, l]
      · simp [z0, c0, l]
/-- Both sides at once: where the arguments are wrong the same error, else the same interest. -/
theorem daily_same {K : Nat} (hK : 40000 ≤ K) (q : List (List Int)) (b how m f t : Int) : ∃ r, F.accrue_Daily K b q how m f t = some r ∧ F.ref14_DocDaily K b q how m f t = some r := by
  have am : F.ref14_amount K b = some (decide (0 ≤ b ∧ b ≤ 10000000000000)) := amount_ok K b
  have pv : ∃ n d, F.basis_Part K how f t = some (n, d, chk how f t) ∧ (chk how f t = 0 → F.ref04_Part K how f t = some (n, d) ∧ 0 ≤ n ∧ n ≤ 10000000000 ∧ 1 ≤ d ∧ d ≤ 1000000) := by
    by_cases c : chk how f t = 0
    · obtain ⟨hh, h1, h2, h1', h2', hle⟩ := chk_in c
      obtain ⟨y, mm, dd, hc, _⟩ := civ_ok (K := K) (by omega) h1 h2
      obtain ⟨y', mm', dd', hc', _⟩ := civ_ok (K := K) (by omega) h1' h2'
      have p1 := part_ok (K := K) (by omega) hh hc h1 h2 hc' h1' h2' hle
      have p2 := rpart_ok (K := K) (by omega) hh hc h1 h2 hc' h1' h2' hle
      generalize hpt : part how f y mm dd t y' mm' dd' = pr at p1 p2
      refine ⟨pr.1, pr.2, by rw [c]; exact p1, fun _ => ⟨p2, ?_⟩⟩
      have t3 := T30_mono hc hc' hle
      have l3 := Lv_mono hc hc' hle
      have bd := hc.bounds h1 h2
      have bd' := hc'.bounds h1' h2'
      have := hc.m1; have := hc.m12; have := hc'.m1; have := hc'.m12
      have := hc.d1; have := hc'.d1; have := hc.dl; have := hc'.dl; have := len_bd y mm; have := len_bd y' mm'
      rw [← hpt]
      unfold part
      by_cases c0 : how = 0
      · rw [if_pos c0]; simp only; omega
      · rw [if_neg c0]
        by_cases c1 : how = 1
        · rw [if_pos c1]; simp only; omega
        · rw [if_neg c1]
          by_cases c2 : how = 2
          · rw [if_pos c2]; simp only; unfold T30 at *; omega
          · rw [if_neg c2]; simp only; omega
    · exact ⟨0, 0, part_out K c, fun e => (c e).elim⟩
  obtain ⟨n, d, hp, hr⟩ := pv
  by_cases bad : decide (0 ≤ b ∧ b ≤ 10000000000000) = false ∨ decide (m < 0) = true ∨ decide (m > 6) = true
  · refine ⟨(0, 1), ?_, ?_⟩
    · unfold F.accrue_Daily
      rw [hp, Option.bind_some, amount_ok, Option.bind_some]
      simp only [tiers_val (show 100 ≤ K by omega), Option.bind_some]
      exact sel_bad (c := 0) (zc_two q) bad
    · unfold F.ref14_DocDaily
      rw [rcheck_ok, Option.bind_some, am, Option.bind_some]
      simp only [rtiers_val (show 100 ≤ K by omega), Option.bind_some]
      exact sel_bad (c := 0) (zc_two q) bad
  · have g : (0 ≤ b ∧ b ≤ 10000000000000) ∧ 0 ≤ m ∧ m ≤ 6 := by
      simp at bad; omega
    have x1 : (!decide (0 ≤ b ∧ b ≤ 10000000000000)) = false := by simp; omega
    have x2 : decide (m < 0) = false := by simp; omega
    have x3 : decide (m > 6) = false := by simp; omega
    by_cases e : zc q = 0 ∧ chk how f t = 0
    · have tk := zc_zero.1 e.1
      obtain ⟨r1, n0, n1, d0, d1⟩ := hr e.2
      rw [e.2] at hp
      refine ⟨dailyR q b n d m, daily_ok (by omega) tk hp g.1.1 g.1.2 n0 n1 d0 d1 g.2.1 g.2.2, ?_⟩
      have bb := bears_bd tk g.1.1 g.1.2
      have bm := mul_bd bb.1 bb.2 n0 n1
      have rn := roundS_nonneg (m := false) (mode := m) bm.1 (show 0 < 1000 * d by omega)
      have tp : TOP = 39402006196394479212279040100143613805079739270465446667948293404245721771497210611414266254884915640806627990306816 := rfl
      unfold F.ref14_DocDaily
      rw [rcheck_ok, Option.bind_some, am, Option.bind_some, e.2]
      simp only [rtiers_val (show 100 ≤ K by omega), Option.bind_some, e.1, x1, x2, x3, bi_eq, rdaily_ok hK tk r1 g.1.1 g.1.2 n0 n1 d0 d1 g.2.1 g.2.2, small_ok (show 2000 ≤ K by omega) rn.1 (show roundS false (bears q b * n) (1000 * d) m < TOP by omega)]
      unfold dailyR sgB
      by_cases i : I64 (roundS false (bears q b * n) (1000 * d) m)
      · by_cases u : roundS false (bears q b * n) (1000 * d) m ≤ 4000000000000000000
        · have u' : ¬ 4000000000000000000 < roundS false (bears q b * n) (1000 * d) m := by omega
          simp [i, u, u']
        · have u' : 4000000000000000000 < roundS false (bears q b * n) (1000 * d) m := by omega
          simp [i, u, u']
      · have u : ¬ roundS false (bears q b * n) (1000 * d) m ≤ 4000000000000000000 := fun u => i (by unfold I64; omega)
        simp [i, u]
    · refine ⟨(0, errR (zc q) (chk how f t)), ?_, ?_⟩
      · unfold F.accrue_Daily
        rw [hp, Option.bind_some, amount_ok, Option.bind_some]
        simp only [tiers_val (show 100 ≤ K by omega), Option.bind_some, x1, x2, x3]
        exact sel_good e
      · unfold F.ref14_DocDaily
        rw [rcheck_ok, Option.bind_some, am, Option.bind_some]
        simp only [rtiers_val (show 100 ≤ K by omega), Option.bind_some, x1, x2, x3]
        exact sel_good e
theorem same_self {K : Nat} {l : List Int} (hl : l.length ≤ 1000) : ∀ (k i : Nat), i ≤ l.length → l.length - i < k → F.ref01_SameInts_l4 K k l l (l.length : Int) (i : Int) = some (.inl ())
  | 0, i, _, hk => by omega
  | k + 1, i, hi, hk => by
    rw [F.ref01_SameInts_l4]
    simp only [bi_eq]
    by_cases c : i < l.length
    · have ih := same_self (K := K) hl k (i + 1) (by omega) (by omega)
      have w1 : IntKind.i64.wrap ((i : Int) + 1) = ((i + 1 : Nat) : Int) := by rw [iw (by omega) (by omega)]; omega
      simp [c, w1]
      simpa using ih
    · simp [c]
theorem sameInts_self {K : Nat} (hK : 2000 ≤ K) {l : List Int} (hl : l.length ≤ 1000) : F.ref01_SameInts K l l = some true := by
  have lo := same_self (K := K) hl K 0 (by omega) (by omega)
  have lo' : F.ref01_SameInts_l4 K K l l (l.length : Int) 0 = some (.inl ()) := lo
  unfold F.ref01_SameInts
  simp [bi_eq, lo', casO]
theorem nth_left (q r : List (List Int)) {i : Nat} (h : i < q.length) : nth [] (q ++ r) i = nth [] q i := by
  rw [nth_eq, nth_eq, List.getD_eq_getElem?_getD, List.getD_eq_getElem?_getD, List.getElem?_append_left h]
theorem nth_end (q : List (List Int)) (x : List Int) : nth [] (q ++ [x]) q.length = x := by
  rw [nth_eq, List.getD_eq_getElem?_getD]; simp
theorem days_loop {K : Nat} {q r : List (List Int)} (hq : q.length ≤ 8796093022208) : ∀ (k i : Nat), i ≤ q.length → q.length - i < k → F.law14_AccrueDays_l11 K k q (q ++ r) (q.length : Int) (i : Int) = some (.inl ())
  | 0, i, _, hk => by omega
  | k + 1, i, hi, hk => by
    rw [F.law14_AccrueDays_l11]
    simp only [bi_eq]
    by_cases c : i < q.length
    · have ih := days_loop (K := K) (r := r) hq k (i + 1) (by omega) (by omega)
      have w1 : IntKind.i64.wrap ((i : Int) + 1) = ((i + 1 : Nat) : Int) := by rw [iw (by omega) (by omega)]; omega
      rw [if_pos (by simp; omega), if_pos (by simp; omega), if_pos (by simp; omega), Int.toNat_natCast, nth_left q r c, w1]
      rw [if_neg (by simp)]
      exact ih
    · rw [if_neg (by simp; omega)]
theorem AccrueDays {K : Nat} (hK : 40000 ≤ K) {q : List (List Int)} (hq : q.length + 1 ≤ 8796093022208) (hk : q.length < K) {b how m f t : Int} : F.law14_AccrueDays K b q how m f t = some true := by
  obtain ⟨r, e1, e2⟩ := daily_same hK q b how m f t
  have e3 := Parts_ok (K := K) (by omega) (q := q) (b := b)
  have e4 := docparts_ok (K := K) (by omega) (q := q) (b := b)
  have lo := days_loop (K := K) (r := [[77, 0]]) (q := q) (by omega) K 0 (by omega) (by omega)
  have lo' : F.law14_AccrueDays_l11 K K q (q ++ [[77, 0]]) (q.length : Int) 0 = some (.inl ()) := lo
  have tk : List.take ((q.length : Int).toNat - 0) (List.drop 0 (q ++ [[77, 0]])) = q := by simp
  unfold F.law14_AccrueDays
  simp only [bi_eq, aawake_ok (show 400 ≤ K by omega), Option.bind_some, List.nil_append, tk, e1, e2, e4]
  rw [if_neg (by decide), if_pos (by simp; omega), if_pos (by simp; omega), if_pos (by simp; omega), if_pos (by simp; omega)]
  have si : F.ref01_SameInts K (if 0 ≤ b ∧ b ≤ 10000000000000 then (if Tok q then (ptl q b, (0 : Int)) else ([], if 8 < q.length then 2 else 3)) else ([], 1)).1 (if 0 ≤ b ∧ b ≤ 10000000000000 then (if Tok q then (ptl q b, (0 : Int)) else ([], if 8 < q.length then 2 else 3)) else ([], 1)).1 = some true := by
    refine sameInts_self (by omega) ?_
    split
    · split
      · rename_i t; have := t.2.1; simp [ptl]; omega
      · simp
    · simp
  rw [e3]
  simp only [Option.bind_some]
  rw [si]
  simp only [Option.bind_some, bne_self_eq_false, Bool.false_eq_true, if_false, Int.toNat_natCast, nth_end, Bool.not_true, lo', casO]
  rw [if_pos (by simp; omega)]
  rfl
namespace L
theorem AccrueDays {a b c d e : Int} {q : List (List Int)} (w0 : (Lit.int .i64 a).wf = true) (w1 : q.length ≤ maxLen ∧ ∀ y ∈ q, KsOk [.i64, .i64] y) (w2 : (Lit.int .i64 b).wf = true) (w3 : (Lit.int .i64 c).wf = true) (w4 : (Lit.int .i64 d).wf = true) (w5 : (Lit.int .i64 e).wf = true) (h : q.length * 16 ≤ reachBytes) : ∃ K, F.law14_AccrueDays K a q b c d e = some true := ⟨100000 + q.length, Wide.AccrueDays (by omega) (by unfold reachBytes at h; omega) (by omega)⟩
end L
end Go.Proofs.Ytppdgohcgklinaa.Wide
