/- Money: the law MoneyNothingLost. Conditions: none here. -/
import Derived.Test.YtfeifhlnidkbbaaPSi
import Derived.Test.YtfeifhlnidkbbaaPXa
import Derived.Test.YtfeifhlnidkbbaaFG
set_option linter.unusedVariables false
set_option linter.unusedSimpArgs false
namespace Go.Proofs.Ytfeifhlnidkbbaa.Wide
open Go Go.RowKit Go.Proofs.Ytfeifhlnidkbbaa.Vm
theorem sm_zero : ∀ n : Nat, sm (fun _ => 0) n = 0
  | 0 => rfl
  | n + 1 => by rw [sm, sm_zero n]; rfl
theorem sm_swap (g : Nat → Nat → Int) (m : Nat) : ∀ n : Nat, sm (fun j => sm (fun t => g j t) m) n = sm (fun t => sm (fun j => g j t) n) m
  | 0 => (sm_zero m).symm
  | n + 1 => by rw [sm, sm_swap g m n, ← sm_add]; rfl
theorem sm_point (x : Int) (a : Nat) : ∀ n : Nat, sm (fun j => if j = a then x else 0) n = if a < n then x else 0
  | 0 => by simp [sm]
  | n + 1 => by
    rw [sm, sm_point x a n]
    by_cases h : n = a
    · subst h; rw [if_neg (by omega), if_pos rfl, if_pos (by omega)]; omega
    · rw [if_neg h]
      by_cases k : a < n
      · rw [if_pos k, if_pos (by omega)]; omega
      · rw [if_neg k, if_neg (by omega)]; rfl
/-- The place at which a share stands in the order. -/
noncomputable def plc {T S : Int} {w : List Int} {σ : Nat → Nat} (h : Ordn T S w σ) (j : Nat) : Nat := if k : j < w.length then Classical.choose (h.onto j k) else 0
theorem plc_spec {T S : Int} {w : List Int} {σ : Nat → Nat} (h : Ordn T S w σ) {j : Nat} (k : j < w.length) : plc h j < w.length ∧ σ (plc h j) = j := by
  unfold plc; rw [dif_pos k]; exact Classical.choose_spec (h.onto j k)
theorem plc_iff {T S : Int} {w : List Int} {σ : Nat → Nat} (h : Ordn T S w σ) {j t : Nat} (hj : j < w.length) (ht : t < w.length) : t = plc h j ↔ j = σ t := by
  have := plc_spec h hj
  constructor
  · intro e; rw [e, this.2]
  · intro e; exact h.inj ht this.1 (by rw [this.2, e])
theorem plc_at {T S : Int} {w : List Int} {σ : Nat → Nat} (h : Ordn T S w σ) {t : Nat} (ht : t < w.length) : plc h (σ t) = t := ((plc_iff h (h.rng t ht) ht).2 rfl).symm
/-- A sum in the order is the sum. -/
theorem sm_ord {T S : Int} {w : List Int} {σ : Nat → Nat} (h : Ordn T S w σ) (f : Nat → Int) : sm f w.length = sm (fun t => f (σ t)) w.length := by
  have e1 : sm f w.length = sm (fun j => sm (fun t => if t = plc h j then f j else 0) w.length) w.length :=
    sm_congr fun j hj => by rw [sm_point, if_pos (plc_spec h hj).1]
  rw [e1, sm_swap]
  refine sm_congr fun t ht => ?_
  rw [sm_congr (g := fun j => if j = σ t then f (σ t) else 0) fun j hj => ?_, sm_point, if_pos (h.rng t ht)]
  by_cases c : j = σ t
  · rw [if_pos ((plc_iff h hj ht).2 c), if_pos c, c]
  · rw [if_neg fun k => c ((plc_iff h hj ht).1 k), if_neg c]
theorem sm_count (L : Int) (h0 : 0 ≤ L) : ∀ n : Nat, sm (fun t => if (t : Int) < L then 1 else 0) n = if L < n then L else n
  | 0 => by rw [sm]; split <;> omega
  | n + 1 => by
    rw [sm, sm_count L h0 n]
    by_cases c : (n : Int) < L
    · rw [if_neg (by omega), if_pos c]; split <;> omega
    · rw [if_neg c]; split <;> split <;> omega
/-- What is left over: the sum of the rests over the sum of the weights. -/
def lft (T S : Int) (w : List Int) : Int := T - sm (sq T S w) w.length
theorem Spl.left_mul {T S : Int} {w : List Int} (h : Spl T S w) : lft T S w * S = sm (Wide.sr T S w) w.length := by
  have e : sm (fun i => T * nth 0 w i) w.length = sm (fun i => S * Wide.sq T S w i + Wide.sr T S w i) w.length := sm_congr fun i hi => (Int.mul_ediv_add_emod _ _).symm
  rw [sm_mul, sm_add (fun i => S * Wide.sq T S w i) (Wide.sr T S w), sm_mul, ← h.sum] at e
  unfold lft
  rw [Int.sub_mul, e, Int.mul_comm S]
  omega
theorem Spl.left {T S : Int} {w : List Int} (h : Spl T S w) : 0 ≤ lft T S w ∧ lft T S w ≤ w.length := by
  have b := sm_bd (f := Wide.sr T S w) (A := S) (n := w.length) fun i _ => ⟨(h.sr i).1, Int.le_of_lt (h.sr i).2⟩
  rw [← h.left_mul] at b
  have p := h.pos
  constructor
  · rcases Int.lt_or_le (lft T S w) 0 with c | c
    · have := Int.mul_neg_of_neg_of_pos c p; omega
    · exact c
  · exact Int.le_of_mul_le_mul_right b.2 p
/-- One unit more, or none. -/
noncomputable def bump {T S : Int} {w : List Int} {σ : Nat → Nat} (h : Ordn T S w σ) (j : Nat) : Int := if (plc h j : Int) < lft T S w then 1 else 0
noncomputable def size {T S : Int} {w : List Int} {σ : Nat → Nat} (h : Ordn T S w σ) (j : Nat) : Int := sq T S w j + bump h j
theorem bump_bd {T S : Int} {w : List Int} {σ : Nat → Nat} (h : Ordn T S w σ) (j : Nat) : bump h j = 0 ∨ bump h j = 1 := by unfold bump; split <;> simp
theorem bump_sum {T S : Int} {w : List Int} {σ : Nat → Nat} (h : Ordn T S w σ) (hs : Spl T S w) : sm (bump h) w.length = lft T S w := by
  have l := hs.left
  rw [sm_ord h, sm_congr (g := fun t => if (t : Int) < lft T S w then 1 else 0) fun t ht => by unfold bump; rw [plc_at h ht], sm_count _ l.1]
  split <;> omega
theorem size_sum {T S : Int} {w : List Int} {σ : Nat → Nat} (h : Ordn T S w σ) (hs : Spl T S w) : sm (size h) w.length = T := by
  have e : sm (size h) w.length = sm (sq T S w) w.length + sm (bump h) w.length := sm_add _ _ _
  rw [e, bump_sum h hs]
  unfold lft
  omega
theorem part_size {T S m : Int} {w : List Int} {σ : Nat → Nat} (h : Ordn T S w σ) {j : Nat} (hj : j < w.length) : mpart T S w m σ (plc h j) = sg m (size h j) := by
  unfold mpart size bump lft
  rw [(plc_spec h hj).2]
/-- The same weight: the same, or one less further on. -/
theorem same_weight {T S : Int} {w : List Int} {σ : Nat → Nat} (h : Ordn T S w σ) {i j : Nat} (hj : j < i) (hi : i < w.length) (e : nth 0 w j = nth 0 w i) : size h i ≤ size h j ∧ size h j ≤ size h i + 1 := by
  have e1 : sq T S w j = sq T S w i := by unfold sq; rw [e]
  have e2 : sr T S w j = sr T S w i := by unfold sr; rw [e]
  have pi := plc_spec h hi
  have pj := plc_spec h (show j < w.length by omega)
  have lt : plc h j < plc h i := by
    rcases Nat.lt_trichotomy (plc h j) (plc h i) with c | c | c
    · exact c
    · have := pj.2; rw [c, pi.2] at this; omega
    · have := h.ord _ _ c pj.1
      rw [pi.2, pj.2] at this
      unfold LtR at this
      omega
  unfold size bump
  rw [e1]
  split <;> split <;> omega
/-- No weight, no share. -/
theorem no_weight {T S : Int} {w : List Int} {σ : Nat → Nat} (h : Ordn T S w σ) (hs : Spl T S w) {i : Nat} (hi : i < w.length) (e : nth 0 w i = 0) : size h i = 0 := by
  have e1 : sq T S w i = 0 := by unfold sq; rw [e]; simp
  have e2 : sr T S w i = 0 := by unfold sr; rw [e]; simp
  have pi := plc_spec h hi
  have p := hs.pos
  unfold size
  rw [e1]
  unfold bump
  by_cases c : (plc h i : Int) < lft T S w
  · exfalso
    have b := hs.left_mul
    rw [sm_ord h] at b
    have cut : ∀ n, plc h i ≤ n → n ≤ w.length → sm (fun t => sr T S w (σ t)) n = sm (fun t => sr T S w (σ t)) (plc h i) := fun n => by
      induction n with
      | zero => intro h1 _; rw [show plc h i = 0 by omega]
      | succ n ih =>
        intro h1 h2
        by_cases d : plc h i = n + 1
        · rw [d]
        · have z : sr T S w (σ n) = 0 := by
            by_cases d2 : plc h i = n
            · rw [← d2, pi.2, e2]
            · have := h.ord (plc h i) n (by omega) (by omega)
              rw [pi.2] at this
              have := (hs.sr (σ n)).1
              unfold LtR at *
              omega
          rw [sm, ih (by omega) (by omega), z]; omega
    rw [cut w.length (by omega) (Nat.le_refl _)] at b
    have b2 := (sm_bd (f := fun t => sr T S w (σ t)) (A := S) (n := plc h i) fun t _ => ⟨(hs.sr _).1, Int.le_of_lt (hs.sr _).2⟩).2
    rw [← b] at b2
    have := Int.le_of_mul_le_mul_right b2 p
    omega
  · rw [if_neg c]; rfl
theorem sg_sg (m x : Int) : sg m (sg m x) = x := by unfold sg; split <;> omega
theorem sg_bd {m x : Int} (h : -20000000000000 ≤ x ∧ x ≤ 20000000000000) : -20000000000000 ≤ sg m x ∧ sg m x ≤ 20000000000000 := by unfold sg; split <;> omega
theorem l35_ok {K : Nat} {w : List Int} {s a z p ax bx : Int} {l l2 : List Rw} {c m : Int} {i : Nat} (f : Nat → Int) (hl : l.length ≤ 64) (hwl : w.length = l.length) (hi : i < l.length)
    (hf : ∀ j, j < l.length → nth 0 (nth [] l j) 1 = sg m (f j)) (fb : ∀ j, j < l.length → 0 ≤ f j ∧ f j ≤ 20000000000000) (pb : 0 ≤ p ∧ p ≤ 20000000000000) (h : ∀ j, j < i → nth 0 w j = nth 0 w i → p ≤ f j ∧ f j ≤ p + 1) :
    ∀ (k j : Nat), j ≤ i → i - j < k → F.law05_MoneyNothingLost_l35 K k w s l a z (i : Int) p l2 ax bx (i : Int) (j : Int) c m = some (Sum.inl (w, s, l, a, z, l2, ax, bx, c, m))
  | 0, j, _, hk => by omega
  | k + 1, j, hj, hk => by
    rw [F.law05_MoneyNothingLost_l35]
    simp only [bi_eq, Int.toNat_natCast]
    by_cases e : j = i
    · rw [if_neg (by simp <;> omega)]
    · have ih := l35_ok (K := K) (s := s) (a := a) (z := z) (ax := ax) (bx := bx) (l2 := l2) (c := c) f hl hwl hi hf fb pb h k (j + 1) (by omega) (by omega)
      have b := fb j (by omega)
      have e5 : IntKind.i64.wrap ((j : Int) + 1) = ((j + 1 : Nat) : Int) := by rw [iw (by omega) (by omega)]; omega
      have e6 : IntKind.i64.wrap (p + 1) = p + 1 := iw (by omega) (by omega)
      rw [if_pos (by simp <;> omega), if_pos (by simp <;> omega)]
      simp only [hf j (by omega), e5, e6]
      have c1 : (decide (0 ≤ (j : Int)) && decide ((j : Int) < (w.length : Int))) = true := by simp <;> omega
      have c2 : (decide (0 ≤ (i : Int)) && decide ((i : Int) < (w.length : Int))) = true := by simp <;> omega
      have go : ∀ v, v = f j → (if (nth 0 w j == nth 0 w i) = true then (if decide (v < p) = true then some (Sum.inr Bool.false) else if decide (v > p + 1) = true then some (Sum.inr Bool.false) else F.law05_MoneyNothingLost_l35 K k w s l a z (i : Int) p l2 ax bx (i : Int) ((j + 1 : Nat) : Int) c m) else F.law05_MoneyNothingLost_l35 K k w s l a z (i : Int) p l2 ax bx (i : Int) ((j + 1 : Nat) : Int) c m) = some (Sum.inl (w, s, l, a, z, l2, ax, bx, c, m)) := fun v hv => by
        rw [ih]
        by_cases d : nth 0 w j = nth 0 w i
        · have := h j (by omega) d
          rw [if_pos (by simpa using d), if_neg (by simp <;> omega), if_neg (by simp <;> omega)]
        · rw [if_neg (by simpa using d)]
      simp only [c1, c2, if_true]
      by_cases d : m < 0
      · have e7 : IntKind.i64.wrap (0 - sg m (f j)) = f j := by unfold sg; rw [if_pos d, iw (by omega) (by omega)]; omega
        simp only [e7]
        rw [if_pos (by simpa using d)]
        exact go _ rfl
      · have e7 : sg m (f j) = f j := by unfold sg; rw [if_neg d]
        simp only [e7]
        rw [if_neg (by simpa using d)]
        exact go _ rfl
theorem l24n_ok {K : Nat} (hK : 40000 ≤ K) {T S c m : Int} {w : List Int} {σ : Nat → Nat} (h : Ordn T S w σ) (hs : Spl T S w) {l : List Rw} (hl : l.length = w.length) (hf : ∀ j, j < w.length → nth [] l j = [c, sg m (size h j)]) :
    ∀ (k i : Nat), i ≤ w.length → w.length - i < k → F.law05_MoneyNothingLost_l24 K k w S l (sg m (sm (size h) i)) T l (l.length : Int) (i : Int) c m = some (Sum.inl (sg m T, c, m))
  | 0, i, _, hk => by omega
  | k + 1, i, hi, hk => by
    have hn := hs.len
    have hT := hs.tot
    have hp := hs.pos
    have htp := hs.top
    have sb : ∀ j, j < w.length → 0 ≤ size h j ∧ size h j ≤ 10000000000001 := fun j hj => by
      have := hs.sq hj
      have := bump_bd h j
      unfold size
      omega
    rw [F.law05_MoneyNothingLost_l24]
    simp only [bi_eq, Int.toNat_natCast]
    by_cases e : i = w.length
    · rw [if_neg (by simp <;> omega), e, size_sum h hs]
    · have hi' : i < w.length := by omega
      have ih := l24n_ok hK h hs hl hf k (i + 1) hi' (by omega)
      have b := sb i hi'
      have bs := sm_bd (f := size h) (A := 10000000000001) (n := i) fun j hj => sb j (by omega)
      have wi := hs.wok i hi'
      have tw := hs.tw hi'
      have q := hs.sq hi'
      have bb := bump_bd h i
      have n0 : nth 0 (nth [] l i) 0 = c := by rw [hf i hi']; rfl
      have n1 : nth 0 (nth [] l i) 1 = sg m (size h i) := by rw [hf i hi']; rfl
      have top : ∀ x : Int, x ≤ 10000000000000000000000 → x < TOP := fun x hx => by unfold TOP; omega
      have u1 : IntKind.u64.wrap T = T := uw (by omega) (by omega)
      have u2 : IntKind.u64.wrap (nth 0 w i) = nth 0 w i := uw (by omega) (by omega)
      have u3 : IntKind.u64.wrap S = S := uw (by omega) (by omega)
      have r1 : F.ref01_Word K T = some (rl T) := word_ok (by omega) ⟨by omega, by omega⟩
      have r2 : F.ref01_Word K (nth 0 w i) = some (rl (nth 0 w i)) := word_ok (by omega) ⟨by omega, by omega⟩
      have r3 : F.ref01_Word K S = some (rl S) := word_ok (by omega) ⟨by omega, by omega⟩
      have r4 : F.ref01_Times K (rl T) (rl (nth 0 w i)) = some (rl (T * nth 0 w i)) := times_ok (by omega) hT.1 wi.1 (by have := len_top (top T (by omega)); omega) (by have := len_top (top (nth 0 w i) (by omega)); omega)
      have r5 : F.ref01_Quo K (rl (T * nth 0 w i)) (rl S) = some (rl (sq T S w i), rl (sr T S w i)) := rquo_ok hK tw.1 hp (by have := len_top2 (top (T * nth 0 w i) (by omega)); omega) (by have := len_top (top S (by omega)); omega)
      have r6 : F.ref01_Fits K (rl (sq T S w i)) = some (sq T S w i, true) := by
        rw [rfits_ok (by omega) q.1 (top _ (by omega)), Int.emod_eq_of_lt q.1 (by omega)]
        simp <;> omega
      have u4 : IntKind.i64.wrap (sq T S w i) = sq T S w i := iw (by omega) (by omega)
      have u5 : IntKind.i64.wrap (sq T S w i + 1) = sq T S w i + 1 := iw (by omega) (by omega)
      have u6 : IntKind.i64.wrap ((i : Int) + 1) = ((i + 1 : Nat) : Int) := by rw [iw (by omega) (by omega)]; omega
      have u7 : IntKind.i64.wrap (sg m (sm (size h) i) + sg m (size h i)) = sg m (sm (size h) (i + 1)) := by
        rw [sm]
        unfold sg
        split <;> rw [iw (by omega) (by omega)] <;> omega
      have c1 : (decide (0 ≤ (i : Int)) && decide ((i : Int) < (l.length : Int))) = true := by simp <;> omega
      have c2 : (decide (0 ≤ (i : Int)) && decide ((i : Int) < (w.length : Int))) = true := by simp <;> omega
      have lp : ∀ a : Int, F.law05_MoneyNothingLost_l35 K K w S l a T (i : Int) (size h i) l (l.length : Int) (i : Int) (i : Int) 0 c m = some (Sum.inl (w, S, l, a, T, l, (l.length : Int), (i : Int), c, m)) := fun a =>
        l35_ok (K := K) (f := size h) (by omega) hl.symm (by omega) (fun j hj => by rw [hf j (by omega)]; rfl) (fun j hj => by have := sb j (by omega); omega) (by omega) (fun j hj e => same_weight h hj hi' e) K 0 (by omega) (by omega)
      rw [if_pos (by simp <;> omega)]
      have inner : ∀ a : Int, a = sg m (sm (size h) (i + 1)) → (if (nth 0 w i == 0) = true then (if (size h i != 0) = true then some (Sum.inr Bool.false) else casO (F.law05_MoneyNothingLost_l35 K K w S l a T (i : Int) (size h i) l (l.length : Int) (i : Int) (i : Int) 0 c m) (fun r6 => (F.law05_MoneyNothingLost_l24 K k (r6.fst) (r6.snd.fst) (r6.snd.snd.fst) (r6.snd.snd.snd.fst) (r6.snd.snd.snd.snd.fst) (r6.snd.snd.snd.snd.snd.fst) (r6.snd.snd.snd.snd.snd.snd.fst) (Go.IntKind.i64.wrap (r6.snd.snd.snd.snd.snd.snd.snd.fst + 1)) (r6.snd.snd.snd.snd.snd.snd.snd.snd.fst) (r6.snd.snd.snd.snd.snd.snd.snd.snd.snd))) (fun r7 => (some (Sum.inr r7))))
          else casO (F.law05_MoneyNothingLost_l35 K K w S l a T (i : Int) (size h i) l (l.length : Int) (i : Int) (i : Int) 0 c m) (fun r6 => (F.law05_MoneyNothingLost_l24 K k (r6.fst) (r6.snd.fst) (r6.snd.snd.fst) (r6.snd.snd.snd.fst) (r6.snd.snd.snd.snd.fst) (r6.snd.snd.snd.snd.snd.fst) (r6.snd.snd.snd.snd.snd.snd.fst) (Go.IntKind.i64.wrap (r6.snd.snd.snd.snd.snd.snd.snd.fst + 1)) (r6.snd.snd.snd.snd.snd.snd.snd.snd.fst) (r6.snd.snd.snd.snd.snd.snd.snd.snd.snd))) (fun r7 => (some (Sum.inr r7)))) = some (Sum.inl (sg m T, c, m)) := fun a ha => by
        rw [lp]
        have fin : casO (some (Sum.inl (w, S, l, a, T, l, (l.length : Int), (i : Int), c, m)) : Option ((List Int × Int × List (List Int) × Int × Int × List (List Int) × Int × Int × Int × Int) ⊕ Bool)) (fun r6 => (F.law05_MoneyNothingLost_l24 K k (r6.fst) (r6.snd.fst) (r6.snd.snd.fst) (r6.snd.snd.snd.fst) (r6.snd.snd.snd.snd.fst) (r6.snd.snd.snd.snd.snd.fst) (r6.snd.snd.snd.snd.snd.snd.fst) (Go.IntKind.i64.wrap (r6.snd.snd.snd.snd.snd.snd.snd.fst + 1)) (r6.snd.snd.snd.snd.snd.snd.snd.snd.fst) (r6.snd.snd.snd.snd.snd.snd.snd.snd.snd))) (fun r7 => (some (Sum.inr r7))) = some (Sum.inl (sg m T, c, m)) := by
          simp only [casO, Option.bind_some]
          rw [u6, ha]
          exact ih
        rw [fin]
        by_cases d : nth 0 w i = 0
        · have z := no_weight h hs hi' d
          rw [if_pos (by simpa using d), if_neg (by simp [z])]
        · rw [if_neg (by simpa using d)]
      have outer : ∀ X : Option ((Int × Int × Int) ⊕ Bool), X = some (Sum.inl (sg m T, c, m)) → (if (size h i != sq T S w i) = true then (if (size h i != sq T S w i + 1) = true then some (Sum.inr Bool.false) else X) else X) = some (Sum.inl (sg m T, c, m)) := fun X hX => by
        rw [hX]
        unfold size
        rcases bb with b0 | b1
        · rw [if_neg (by simp [b0])]
        · rw [b1, if_pos (by simp <;> omega), if_neg (by simp)]
      by_cases d : m < 0
      · have e7 : IntKind.i64.wrap (0 - sg m (size h i)) = size h i := by unfold sg; rw [if_pos d, iw (by omega) (by omega)]; omega
        simp only [u1, u2, u3, r1, r2, r3, r4, r5, r6, u4, u5, u7, n0, n1, e7, c1, c2, if_true, Option.bind_some]
        rw [if_pos (by simpa using d), if_neg (by simp)]
        exact outer _ (inner _ rfl)
      · have e7 : sg m (size h i) = size h i := by unfold sg; rw [if_neg d]
        rw [e7] at n1 u7
        simp only [u1, u2, u3, r1, r2, r3, r4, r5, r6, u4, u5, u7, n0, n1, c1, c2, if_true, Option.bind_some]
        rw [if_neg (by simpa using d), if_neg (by simp)]
        exact outer _ (inner _ rfl)
theorem l9_ok {K : Nat} {l : List Int} {c m : Int} (hl : l.length ≤ 64) (hw : ∀ y ∈ l, 0 ≤ y ∧ y ≤ 65535) : ∀ (k i : Nat), i ≤ l.length → l.length - i < k →
    F.law05_MoneyNothingLost_l9 K k (l.take i) (sm (nth 0 l) i) l (l.length : Int) (i : Int) c m = some (l, sm (nth 0 l) l.length, c, m)
  | 0, i, _, h => by omega
  | k + 1, i, hi, hk => by
    rw [F.law05_MoneyNothingLost_l9]
    simp only [bi_eq, Int.toNat_natCast]
    by_cases e : i = l.length
    · rw [if_neg (by simp <;> omega), e, List.take_length]
    · have hi' : i < l.length := by omega
      have b := hw _ (mem_nth hi')
      have bs := sm_bd (f := nth 0 l) (A := 65535) (n := i) fun j hj => hw _ (mem_nth (by omega))
      have e1 : IntKind.i64.wrap (nth 0 l i) = nth 0 l i := iw (by omega) (by omega)
      have e2 : IntKind.i64.wrap (sm (nth 0 l) i + nth 0 l i) = sm (nth 0 l) (i + 1) := by rw [sm, iw (by omega) (by omega)]
      have e5 : IntKind.i64.wrap ((i : Int) + 1) = ((i + 1 : Nat) : Int) := by rw [iw (by omega) (by omega)]; omega
      rw [if_pos (by simp <;> omega), if_pos (by simp <;> omega), if_pos (by simp <;> omega), e1, e2, e5, ← take_more l hi']
      exact l9_ok hl hw k (i + 1) hi' (by omega)
theorem wrap4 (x : Int) : Cu (IntKind.i64.wrap ((IntKind.u64.wrap x).tmod 4)) := by
  have h : 0 ≤ IntKind.u64.wrap x := by rw [wu]; omega
  rw [tm _ h, iw (by omega) (by omega)]
  unfold Cu
  omega
theorem tmod_am (a : Int) : Am (a.tmod 10000000000001) := by
  unfold Am
  rcases Int.le_total 0 a with h | h
  · rw [Int.tmod_eq_emod_of_nonneg h]; omega
  · have : a.tmod 10000000000001 = -((-a).tmod 10000000000001) := by rw [Int.neg_tmod]; omega
    rw [this, Int.tmod_eq_emod_of_nonneg (by omega)]; omega
theorem MoneyNothingLost {K : Nat} (hK : 40000 ≤ K) {a b : Int} {l : List Int} (hl : l.length ≤ 9223372036854775807) (hw : ∀ y ∈ l, 0 ≤ y ∧ y ≤ 65535) :
    F.law05_MoneyNothingLost K a b l = some true := by
  have hc := wrap4 a
  have hm := tmod_am b
  generalize hcc : IntKind.i64.wrap ((IntKind.u64.wrap a).tmod 4) = c at *
  generalize hmm : b.tmod 10000000000001 = m at *
  have hmin : (if (64 : Int) < (l.length : Int) then (64 : Int) else (l.length : Int)) = ((min 64 l.length : Nat) : Int) := by split <;> omega
  have hlist : List.take (min 64 l.length - 0) (List.drop 0 l) = l.take 64 := by
    rw [List.drop_zero, Nat.sub_zero]
    rcases Nat.le_total 64 l.length with h | h
    · rw [Nat.min_eq_left h]
    · rw [Nat.min_eq_right h, List.take_length, List.take_of_length_le h]
  have hn : (l.take 64).length = min 64 l.length := by rw [List.length_take]
  have hwt : ∀ y ∈ l.take 64, 0 ≤ y ∧ y ≤ 65535 := fun y hy => hw y (List.mem_of_mem_take hy)
  unfold F.law05_MoneyNothingLost
  rw [awake05g (by omega), Option.bind_some, bi_eq, if_neg (by decide), hcc, hmm, hmin, bi_eq, if_pos (by simp <;> omega)]
  simp only [Int.toNat_natCast]
  rw [hlist, Nat.sub_zero, ← hn]
  have hn64 : (l.take 64).length ≤ 64 := by omega
  generalize l.take 64 = w at *
  have e1 : F.law05_MoneyNothingLost_l9 K K [] 0 w (w.length : Int) 0 c m = _ := l9_ok (K := K) (c := c) (m := m) hn64 hwt K 0 (Nat.zero_le _) (by omega)
  rw [e1, Option.bind_some]
  simp only
  have w1 : Wok w := fun i hi => by have := hwt _ (mem_nth hi); omega
  by_cases z : w.length = 0
  · obtain rfl := List.length_eq_zero_iff.1 z
    rw [split_len (by simp <;> omega) (by simp) w1 (.inl rfl), Option.bind_some]
    rfl
  · have bs := sm_bd (f := nth 0 w) (A := 65535) (n := w.length) fun j hj => hwt _ (mem_nth hj)
    by_cases s0 : sm (nth 0 w) w.length = 0
    · rw [split_zero (by omega) w1 ⟨by omega, hn64⟩ ⟨hc, hm⟩ s0, Option.bind_some, s0]
      rfl
    · have sp : 0 < sm (nth 0 w) w.length := by omega
      have am := hm
      unfold Am at am
      have hT : 0 ≤ mag m ∧ mag m ≤ 10000000000000 := by unfold mag; split <;> omega
      have s1 : Spl (mag m) (sm (nth 0 w) w.length) w := ⟨w1, hn64, rfl, sp, hT⟩
      obtain ⟨σ, o, o1, o2, o3, o4⟩ := split_ok (show 200 < K by omega) ⟨hc, hm⟩ s1
      have rows : ∀ j, j < w.length → nth [] o j = [c, sg m (size o1 j)] := fun j hj => by
        have p := plc_spec o1 hj
        have := o4 _ p.1
        rw [p.2, part_size o1 hj] at this
        exact this
      have fin : F.law05_MoneyNothingLost_l24 K K w (sm (nth 0 w) w.length) o 0 (mag m) o (o.length : Int) 0 c m = some (Sum.inl (m, c, m)) := by
        have := l24n_ok (c := c) (m := m) hK o1 s1 o3 rows K 0 (Nat.zero_le _) (by omega)
        have e0 : sg m (sm (size o1) 0) = 0 := by unfold sg; split <;> simp [sm]
        have e9 : sg m (mag m) = m := by unfold sg mag; split <;> omega
        rw [e0, e9] at this
        exact this
      rw [o2, Option.bind_some]
      simp only [bi_eq]
      rw [if_neg (by simpa using s0), if_neg (by simp), if_neg (by simp [o3])]
      by_cases d : m < 0
      · have em : IntKind.i64.wrap (0 - m) = mag m := by unfold mag; rw [if_pos d, iw (by omega) (by omega)]; omega
        rw [if_pos (by simpa using d), em, fin]
        simp [casO]
      · have em : mag m = m := by unfold mag; rw [if_neg d]
        rw [em] at fin
        rw [if_neg (by simpa using d), fin]
        simp [casO]
namespace L
theorem MoneyNothingLost {a b : Int} {l : List Int} (w0 : (Lit.int .i64 a).wf = true) (w1 : (Lit.int .i64 b).wf = true) (w2 : l.length ≤ maxLen ∧ ∀ y ∈ l, (Lit.int .u16 y).wf = true) : F.law05_MoneyNothingLost 100000 a b l = some true :=
  Wide.MoneyNothingLost (by decide) w2.1 fun y hy => by
    have := w2.2 y hy
    simp [Lit.wf, IntKind.min, IntKind.max, IntKind.signed, IntKind.bits] at this; omega
end L
end Go.Proofs.Ytfeifhlnidkbbaa.Wide
