/- DigitsOrder: texts in the order of their numbers. Conditions: none here. -/
import Derived.Test.YtmlohnfghomghaaDoorPTg
set_option linter.unusedVariables false
set_option linter.unusedSimpArgs false
namespace Go.Proofs.YtmlohnfghomghaaDoor.Wide
open Go Go.RowKit Go.Proofs.YtmlohnfghomghaaDoor.Vm
/-- The order of texts. -/
def lx : List Int → List Int → Bool
  | _, [] => false
  | [], _ :: _ => true
  | a :: x, b :: y => decide (a < b) || (decide (a = b) && lx x y)
theorem u8_lt {a b : Int} (ha : 0 ≤ a ∧ a < 256) (hb : 0 ≤ b ∧ b < 256) : (decide (UInt8.ofNat a.toNat < UInt8.ofNat b.toNat) = decide (a < b)) ∧ ((UInt8.ofNat a.toNat == UInt8.ofNat b.toNat) = decide (a = b)) := by
  obtain ⟨n, rfl⟩ := Int.eq_ofNat_of_zero_le ha.1
  obtain ⟨m, rfl⟩ := Int.eq_ofNat_of_zero_le hb.1
  have e1 : (UInt8.ofNat n).toNat = n := by simp; omega
  have e2 : (UInt8.ofNat m).toNat = m := by simp; omega
  rw [Int.toNat_natCast, Int.toNat_natCast]
  constructor
  · rw [decide_eq_decide, UInt8.lt_iff_toNat_lt, e1, e2]; omega
  · rw [Bool.eq_iff_iff, beq_iff_eq, decide_eq_true_iff, ← UInt8.toNat_inj, e1, e2]; omega
theorem less_lx : ∀ (l m : List Int), By l → By m → Op.bytesLess (l.map fun c => UInt8.ofNat c.toNat) (m.map fun c => UInt8.ofNat c.toNat) = lx l m
  | [], [], _, _ => rfl
  | [], b :: m, _, _ => rfl
  | a :: l, [], _, _ => rfl
  | a :: l, b :: m, hl, hm => by
    have h := u8_lt (hl a (by simp)) (hm b (by simp))
    simp only [List.map_cons, Op.bytesLess, lx]
    rw [less_lx l m (fun x hx => hl x (by simp [hx])) (fun x hx => hm x (by simp [hx])), h.1, h.2]
theorem slt_lx {l m : List Int} (hl : By l) (hm : By m) : sLt (strOf l) (strOf m) = lx l m := by
  unfold sLt
  rw [ba_list, ba_list]
  have : ∀ l : List Int, (strOf l).data.toList = l.map fun c => UInt8.ofNat c.toNat := fun l => by simp [strOf]
  rw [this, this]
  exact less_lx l m hl hm
theorem lx_self : ∀ l : List Int, lx l l = false
  | [] => rfl
  | a :: l => by simp [lx, lx_self l]
theorem lx_pd : ∀ (n : Nat) (x y : Int) (a b : List Int), lx (pd n x ++ a) (pd n y ++ b) = if x % 10 ^ n < y % 10 ^ n then true else if x % 10 ^ n = y % 10 ^ n then lx a b else false
  | 0, x, y, a, b => by simp [pd, Int.emod_one]
  | n + 1, x, y, a, b => by
    have spl : ∀ z : Int, z % 10 ^ (n + 1) = z / 10 ^ n % 10 * 10 ^ n + z % 10 ^ n := fun z => by
      have h1 := dv_pd (n + 1) 0 z
      rw [pd_front, dv, dv_pd, Int.zero_mul, Int.zero_add] at h1
      rw [← h1]
      congr 2
      omega
    have px := Int.emod_nonneg x (show (10 : Int) ^ n ≠ 0 by have := p10_pos n; omega)
    have py := Int.emod_nonneg y (show (10 : Int) ^ n ≠ 0 by have := p10_pos n; omega)
    have qx := Int.emod_lt_of_pos x (p10_pos n)
    have qy := Int.emod_lt_of_pos y (p10_pos n)
    have ih := lx_pd n x y a b
    rw [spl x, spl y, pd_front, pd_front, List.cons_append, List.cons_append, lx, ih]
    have hp := p10_pos n
    generalize x % 10 ^ n = rx at *
    generalize y % 10 ^ n = ry at *
    generalize x / 10 ^ n % 10 = dx at *
    generalize y / 10 ^ n % 10 = dy at *
    generalize (10 : Int) ^ n = P at *
    rcases Int.lt_trichotomy dx dy with c | c | c
    · have h1 : (dx + 1) * P ≤ dy * P := Int.mul_le_mul_of_nonneg_right (by omega) (by omega)
      rw [Int.add_mul, Int.one_mul] at h1
      rw [decide_eq_true (show (48 : Int) + dx < 48 + dy by omega), Bool.true_or, if_pos (by omega)]
    · subst c
      rw [decide_eq_false (show ¬ (48 : Int) + dx < 48 + dx by omega), Bool.false_or, decide_eq_true rfl, Bool.true_and]
      by_cases d : rx < ry
      · rw [if_pos d, if_pos (by omega)]
      · rw [if_neg d]
        by_cases e : rx = ry
        · rw [if_pos e, if_neg (by omega), if_pos (by omega)]
        · rw [if_neg e, if_neg (by omega), if_neg (by omega)]
    · have h1 : (dy + 1) * P ≤ dx * P := Int.mul_le_mul_of_nonneg_right (by omega) (by omega)
      rw [Int.add_mul, Int.one_mul] at h1
      rw [decide_eq_false (show ¬ (48 : Int) + dx < 48 + dy by omega), Bool.false_or, decide_eq_false (show ¬ (48 : Int) + dx = 48 + dy by omega), Bool.false_and, if_neg (by omega), if_neg (by omega)]
theorem div_lt {x y P : Int} (hp : 0 < P) (h : x / P < y / P) : x < y := by
  rcases Int.lt_or_le x y with c | c
  · exact c
  · have := Int.ediv_le_ediv hp c; omega
theorem div_same {x y P : Int} (hp : 0 < P) (h : x / P = y / P) : (x % P < y % P ↔ x < y) ∧ (x % P = y % P ↔ x = y) := by
  have h1 := Int.mul_ediv_add_emod x P
  have h2 := Int.mul_ediv_add_emod y P
  rw [h] at h1
  omega
/-- Two texts of one length. -/
theorem lx_text {x y : Int} {s D : Nat} (dx : Dn x (s : Int) D) (dy : Dn y (s : Int) D) : lx (rw_ x (s : Int) D).reverse (rw_ y (s : Int) D).reverse = decide (x < y) := by
  have e1 := dx.sc1
  have top : ∀ {z : Int}, z / 10 ^ D = 0 → z / 10 ^ s % 10 ^ (D - s) = z / 10 ^ s := fun {z} hz => by
    have h1 := Int.mul_ediv_add_emod (z / 10 ^ s) (10 ^ (D - s))
    rw [Int.ediv_ediv_of_nonneg (Int.le_of_lt (p10_pos s)), ← Int.pow_add, show s + (D - s) = D by omega, hz] at h1
    omega
  rw [rw_text dx, rw_text dy, lx_pd, top dx.zero, top dy.zero]
  have hp := p10_pos s
  by_cases c : x / 10 ^ s < y / 10 ^ s
  · rw [if_pos c, decide_eq_true (div_lt hp c)]
  rw [if_neg c]
  by_cases d : x / 10 ^ s = y / 10 ^ s
  · rw [if_pos d]
    have ds := div_same hp d
    unfold behind
    by_cases z : s = 0
    · rw [if_pos z, if_pos z]
      subst z
      have h1 : decide (x < y) = false := by
        refine decide_eq_false fun h => ?_
        have := ds.1.2 h
        simp [Int.emod_one] at this
      rw [h1]
      rfl
    · rw [if_neg z, if_neg z, lx, decide_eq_false (by decide), decide_eq_true rfl, Bool.false_or, Bool.true_and]
      have h1 := lx_pd s x y [] []
      rw [List.append_nil, List.append_nil] at h1
      rw [h1]
      by_cases e : x % 10 ^ s < y % 10 ^ s
      · rw [if_pos e, decide_eq_true (ds.1.1 e)]
      · rw [if_neg e, decide_eq_false (fun h => e (ds.1.2 h))]
        split <;> rfl
  · rw [if_neg d]
    exact (decide_eq_false fun h => by have := Int.ediv_le_ediv hp (show x ≤ y by omega); omega).symm
theorem text_len {x : Int} {s D : Nat} (dx : Dn x (s : Int) D) : (rw_ x (s : Int) D).reverse.length = D + if s = 0 then 0 else 1 := by
  have := dx.sc1
  rw [rw_text dx, List.length_append, pd_len]
  unfold behind
  split
  · simp; omega
  · simp [pd_len]; omega
theorem longer {x y : Int} {s D E : Nat} (x0 : 0 ≤ x) (y0 : 0 ≤ y) (dx : Dn x (s : Int) D) (dy : Dn y (s : Int) E) (h : D < E) : x < y := by
  have e1 := dx.sc1
  have e2 : 0 < y / 10 ^ (E - 1) := by
    rcases dy.last with l | l
    · omega
    · exact l
  have e3 := dn_zero x0 (show D ≤ E - 1 by omega) dx.zero
  exact div_lt (p10_pos (E - 1)) (by omega)
theorem DigitsOrder {K : Nat} (hK : 40000 ≤ K) (hA : F.law02_awake K = some true) {x y m : Int} (hx : Word x) (hy : Word y) : F.law02_DigitsOrder K x y m = some true := by
  unfold F.law02_DigitsOrder
  have hm : ∃ s : Nat, s ≤ 18 ∧ IntKind.i64.wrap ((IntKind.u64.wrap m).tmod 19) = (s : Int) := by
    have h0 : 0 ≤ IntKind.u64.wrap m := by rw [wu]; omega
    rw [tm _ h0]
    refine ⟨(IntKind.u64.wrap m % 19).toNat, by omega, ?_⟩
    rw [iw (by omega) (by omega)]
    omega
  obtain ⟨s, hs, e⟩ := hm
  rw [e]
  have z0 : I64 0 := by decide
  have fx : Fm 0 x (s : Int) := ⟨by omega, by omega, by omega⟩
  have fy : Fm 0 y (s : Int) := ⟨by omega, by omega, by omega⟩
  have cx : cf 0 x = x := by unfold cf; omega
  have cy : cf 0 y = y := by unfold cf; omega
  have sx : siz 0 x = x := by unfold siz; rw [if_neg (by decide), cx]
  have sy : siz 0 y = y := by unfold siz; rw [if_neg (by decide), cy]
  have hx' := hx
  have hy' := hy
  unfold Word at hx' hy'
  obtain ⟨D, d1⟩ := dn_ex (N := siz 0 x) (sc := (s : Int)) (by omega) (by omega) (by omega) (by omega)
  obtain ⟨E, d2⟩ := dn_ex (N := siz 0 y) (sc := (s : Int)) (by omega) (by omega) (by omega) (by omega)
  have tx : txtD (cf 0 x) (s : Int) D = (rw_ x (s : Int) D).reverse := by unfold txtD sgt; rw [cx, if_neg (by omega), if_neg (by omega)]; rfl
  have ty : txtD (cf 0 y) (s : Int) E = (rw_ y (s : Int) E).reverse := by unfold txtD sgt; rw [cy, if_neg (by omega), if_neg (by omega)]; rfl
  obtain ⟨B1, doc1, _, _⟩ := txt_doc z0 hx fx d1
  obtain ⟨B2, doc2, _, _⟩ := txt_doc z0 hy fy d2
  have b1 := doc1.by_
  have b2 := doc2.by_
  rw [tx] at b1
  rw [ty] at b2
  have hcmp : F.dec_Cmp K 0 x (s : Int) 0 y (s : Int) = some (cmp3 x y, 0) := by
    rw [dcmp_ok (by omega) z0 hx z0 hy, if_pos ⟨fx, fy⟩, mx_self]
    unfold up
    rw [Int.sub_self, p10z_zero, Int.mul_one, Int.mul_one, cx, cy]
  rw [hA, Option.bind_some, bi_eq, if_neg (by decide), dwrite_ok (by omega) z0 hx fx d1, Option.bind_some, dwrite_ok (by omega) z0 hy fy d2, Option.bind_some, hcmp, Option.bind_some, tx, ty]
  rw [sx] at d1
  rw [sy] at d2
  simp only [bi_eq, strOf_size]
  rw [if_neg (by decide), if_neg (by decide), if_neg (by decide), text_len d1, text_len d2]
  by_cases c : D = E
  · subst c
    rw [if_neg (by simp), slt_lx b1 b2, lx_text d1 d2, form_ok, Option.bind_some]
    have hseq : sEq (strOf (rw_ x (s : Int) D).reverse) (strOf (rw_ y (s : Int) D).reverse) = decide (x = y) := by
      by_cases q : x = y
      · subst q; rw [seq_self, decide_eq_true rfl]
      · rw [decide_eq_false q]
        cases hq : sEq (strOf (rw_ x (s : Int) D).reverse) (strOf (rw_ y (s : Int) D).reverse) with
        | false => rfl
        | true =>
          have h1 := seq_iff.1 hq
          have h2 := slt_lx b1 b2
          have h3 := slt_lx b2 b1
          rw [lx_text d1 d2] at h2
          rw [lx_text d2 d1] at h3
          have h4 := slt_lx b2 b2
          rw [lx_self] at h4
          rw [h1, h4] at h2
          rw [h1, h4] at h3
          have h5 := of_decide_eq_false h2.symm
          have h6 := of_decide_eq_false h3.symm
          omega
    rw [hseq]
    rcases Int.lt_trichotomy x y with q | q | q
    · have : cmp3 x y = -1 := by unfold cmp3; rw [if_pos q]
      rw [this, decide_eq_true q, decide_eq_false (show ¬ x = y by omega), if_pos (by decide), if_pos (by decide)]
      simp [fx]
    · have : cmp3 x y = 0 := by unfold cmp3; rw [if_neg (by omega), if_neg (by omega)]
      rw [this, decide_eq_false (show ¬ x < y by omega), decide_eq_true q, if_pos (by decide), if_pos (by decide)]
      simp [fx]
    · have : cmp3 x y = 1 := by unfold cmp3; rw [if_neg (by omega), if_pos q]
      rw [this, decide_eq_false (show ¬ x < y by omega), decide_eq_false (show ¬ x = y by omega), if_pos (by decide), if_pos (by decide)]
      simp [fx]
  · rw [if_pos (by simp; omega)]
    rcases Nat.lt_or_gt_of_ne c with q | q
    · have l := longer (by omega) (by omega) d1 d2 q
      have : cmp3 x y = -1 := by unfold cmp3; rw [if_pos l]
      rw [this, decide_eq_true (show ((D + if s = 0 then 0 else 1 : Nat) : Int) < ((E + if s = 0 then 0 else 1 : Nat) : Int) by omega), if_pos (by decide)]
      rfl
    · have l := longer (by omega) (by omega) d2 d1 q
      have : cmp3 x y = 1 := by unfold cmp3; rw [if_neg (by omega), if_pos l]
      rw [this, decide_eq_false (show ¬ ((D + if s = 0 then 0 else 1 : Nat) : Int) < ((E + if s = 0 then 0 else 1 : Nat) : Int) by omega), if_pos (by decide)]
      rfl
namespace L
theorem DigitsOrder {x y m : Int} (w0 : (Lit.int .u64 x).wf = true) (w1 : (Lit.int .u64 y).wf = true) (w2 : (Lit.int .i64 m).wf = true) : F.law02_DigitsOrder 100000 x y m = some true :=
  Wide.DigitsOrder (by decide) awake02 (by simp [Lit.wf, IntKind.min, IntKind.max, IntKind.signed, IntKind.bits] at w0; unfold Word; omega) (by simp [Lit.wf, IntKind.min, IntKind.max, IntKind.signed, IntKind.bits] at w1; unfold Word; omega)
end L
end Go.Proofs.YtmlohnfghomghaaDoor.Wide
