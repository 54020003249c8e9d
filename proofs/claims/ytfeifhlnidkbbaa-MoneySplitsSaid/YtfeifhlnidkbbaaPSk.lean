/- Money: the document's split, and the law MoneySplits. Conditions: none here. -/
import Derived.Test.YtfeifhlnidkbbaaPXs
import Derived.Test.YtfeifhlnidkbbaaPXa
import Derived.Test.YtfeifhlnidkbbaaPMb
import Derived.Test.YtfeifhlnidkbbaaFH
import Derived.Test.YtfeifhlnidkbbaaVmZ
set_option linter.unusedVariables false
set_option linter.unusedSimpArgs false
namespace Go.Proofs.Ytfeifhlnidkbbaa.Wide
open Go Go.RowKit Go.Proofs.Ytfeifhlnidkbbaa.Vm
theorem sm_zero : ∀ n : Nat, sm (fun _ => 0) n = 0
  | 0 => rfl
  | n + 1 => by rw [sm, sm_zero n]; rfl
theorem sm_swap (g : Nat → Nat → Int) (m : Nat) : ∀ n : Nat, sm (fun j => sm (fun t => g j t) m) n = sm (fun t => sm (fun j => g j t) n) m
  | 0 => (sm_zero m).symm
  | n + 1 => by rw [sm, sm_swap g m n, ← sm_add]; rfl
theorem sm_point (x : Int) (a : Nat) : ∀ n : Nat, sm (fun j => if j = a then x else 0) n = if a < n then x else 0
  | 0 => by simp [sm]
  | n + 1 => by
    rw [sm, sm_point x a n]
    by_cases h : n = a
    · subst h; rw [if_neg (by omega), if_pos rfl, if_pos (by omega)]; omega
    · rw [if_neg h]
      by_cases k : a < n
      · rw [if_pos k, if_pos (by omega)]; omega
      · rw [if_neg k, if_neg (by omega)]; rfl
/-- The place at which a share stands in the order. -/
noncomputable def plc {T S : Int} {w : List Int} {σ : Nat → Nat} (h : Ordn T S w σ) (j : Nat) : Nat := if k : j < w.length then Classical.choose (h.onto j k) else 0
theorem plc_spec {T S : Int} {w : List Int} {σ : Nat → Nat} (h : Ordn T S w σ) {j : Nat} (k : j < w.length) : plc h j < w.length ∧ σ (plc h j) = j := by
  unfold plc; rw [dif_pos k]; exact Classical.choose_spec (h.onto j k)
theorem plc_iff {T S : Int} {w : List Int} {σ : Nat → Nat} (h : Ordn T S w σ) {j t : Nat} (hj : j < w.length) (ht : t < w.length) : t = plc h j ↔ j = σ t := by
  have := plc_spec h hj
  constructor
  · intro e; rw [e, this.2]
  · intro e; exact h.inj ht this.1 (by rw [this.2, e])
theorem plc_at {T S : Int} {w : List Int} {σ : Nat → Nat} (h : Ordn T S w σ) {t : Nat} (ht : t < w.length) : plc h (σ t) = t := ((plc_iff h (h.rng t ht) ht).2 rfl).symm
/-- A sum in the order is the sum. -/
theorem sm_ord {T S : Int} {w : List Int} {σ : Nat → Nat} (h : Ordn T S w σ) (f : Nat → Int) : sm f w.length = sm (fun t => f (σ t)) w.length := by
  have e1 : sm f w.length = sm (fun j => sm (fun t => if t = plc h j then f j else 0) w.length) w.length :=
    sm_congr fun j hj => by rw [sm_point, if_pos (plc_spec h hj).1]
  rw [e1, sm_swap]
  refine sm_congr fun t ht => ?_
  rw [sm_congr (g := fun j => if j = σ t then f (σ t) else 0) fun j hj => ?_, sm_point, if_pos (h.rng t ht)]
  by_cases c : j = σ t
  · rw [if_pos ((plc_iff h hj ht).2 c), if_pos c, c]
  · rw [if_neg fun k => c ((plc_iff h hj ht).1 k), if_neg c]
theorem sm_count (L : Int) (h0 : 0 ≤ L) : ∀ n : Nat, sm (fun t => if (t : Int) < L then 1 else 0) n = if L < n then L else n
  | 0 => by rw [sm]; split <;> omega
  | n + 1 => by
    rw [sm, sm_count L h0 n]
    by_cases c : (n : Int) < L
    · rw [if_neg (by omega), if_pos c]; split <;> omega
    · rw [if_neg c]; split <;> split <;> omega
/-- What is left over: the sum of the rests over the sum of the weights. -/
def lft (T S : Int) (w : List Int) : Int := T - sm (sq T S w) w.length
theorem Spl.left_mul {T S : Int} {w : List Int} (h : Spl T S w) : lft T S w * S = sm (Wide.sr T S w) w.length := by
  have e : sm (fun i => T * nth 0 w i) w.length = sm (fun i => S * Wide.sq T S w i + Wide.sr T S w i) w.length := sm_congr fun i hi => (Int.mul_ediv_add_emod _ _).symm
  rw [sm_mul, sm_add (fun i => S * Wide.sq T S w i) (Wide.sr T S w), sm_mul, ← h.sum] at e
  unfold lft
  rw [Int.sub_mul, e, Int.mul_comm S]
  omega
theorem Spl.left {T S : Int} {w : List Int} (h : Spl T S w) : 0 ≤ lft T S w ∧ lft T S w ≤ w.length := by
  have b := sm_bd (f := Wide.sr T S w) (A := S) (n := w.length) fun i _ => ⟨(h.sr i).1, Int.le_of_lt (h.sr i).2⟩
  rw [← h.left_mul] at b
  have p := h.pos
  constructor
  · rcases Int.lt_or_le (lft T S w) 0 with c | c
    · have := Int.mul_neg_of_neg_of_pos c p; omega
    · exact c
  · exact Int.le_of_mul_le_mul_right b.2 p
/-- One unit more, or none. -/
noncomputable def bump {T S : Int} {w : List Int} {σ : Nat → Nat} (h : Ordn T S w σ) (j : Nat) : Int := if (plc h j : Int) < lft T S w then 1 else 0
noncomputable def size {T S : Int} {w : List Int} {σ : Nat → Nat} (h : Ordn T S w σ) (j : Nat) : Int := sq T S w j + bump h j
theorem bump_bd {T S : Int} {w : List Int} {σ : Nat → Nat} (h : Ordn T S w σ) (j : Nat) : bump h j = 0 ∨ bump h j = 1 := by unfold bump; split <;> simp
theorem bump_sum {T S : Int} {w : List Int} {σ : Nat → Nat} (h : Ordn T S w σ) (hs : Spl T S w) : sm (bump h) w.length = lft T S w := by
  have l := hs.left
  rw [sm_ord h, sm_congr (g := fun t => if (t : Int) < lft T S w then 1 else 0) fun t ht => by unfold bump; rw [plc_at h ht], sm_count _ l.1]
  split <;> omega
theorem size_sum {T S : Int} {w : List Int} {σ : Nat → Nat} (h : Ordn T S w σ) (hs : Spl T S w) : sm (size h) w.length = T := by
  have e : sm (size h) w.length = sm (sq T S w) w.length + sm (bump h) w.length := sm_add _ _ _
  rw [e, bump_sum h hs]
  unfold lft
  omega
theorem part_size {T S m : Int} {w : List Int} {σ : Nat → Nat} (h : Ordn T S w σ) {j : Nat} (hj : j < w.length) : mpart T S w m σ (plc h j) = sg m (size h j) := by
  unfold mpart size bump lft
  rw [(plc_spec h hj).2]
/-- A list by its members. -/
def tab {α : Type} (n : Nat) (r : Nat → α) : List α := (List.range n).map r
theorem tab_len {α : Type} (n : Nat) (r : Nat → α) : (tab n r).length = n := by simp [tab]
theorem tab_nth {α : Type} {n : Nat} {r : Nat → α} {d : α} {j : Nat} (h : j < n) : nth d (tab n r) j = r j := by
  rw [nth_eq, List.getD_eq_getElem?_getD]
  simp [tab, h]
theorem tab_set {α : Type} (n : Nat) (r : Nat → α) (j : Nat) (x : α) : (tab n r).set j x = tab n (fun i => if i = j then x else r i) := by
  apply List.ext_getElem
  · simp [tab]
  · intro i h1 h2
    simp only [tab, List.getElem_set, List.getElem_map, List.getElem_range]
    by_cases c : j = i
    · rw [if_pos c, if_pos c.symm]
    · rw [if_neg c, if_neg fun e => c e.symm]
theorem tab_congr {α : Type} {n : Nat} {r s : Nat → α} (h : ∀ j, j < n → r j = s j) : tab n r = tab n s := by
  unfold tab
  exact List.map_congr_left fun j hj => h j (by simpa using hj)
theorem tab_rep {α : Type} (n : Nat) (x : α) : List.replicate n x = tab n (fun _ => x) := by
  apply List.ext_getElem
  · simp [tab]
  · intro i h1 h2
    simp [tab]
/-- Digits as data. -/
def dl (l : List Int) : List (List D) := l.map fun x => [D.i x]
theorem dl_len (l : List Int) : (dl l).length = l.length := by simp [dl]
theorem dl_nth : ∀ (l : List Int) (i : Nat), (nth d0 (nth [] (dl l) i) 0).toI = nth 0 l i
  | [], _ => rfl
  | x :: l, 0 => rfl
  | x :: l, i + 1 => dl_nth l i
theorem toL_l (x : List (List D)) : (D.l x).toL = x := rfl
theorem cmpro_loop (K : Nat) (a b : List Int) : ∀ (k : Nat) (i : Int), F.ref01_Compare_ro_l6 K k (dl a) (dl b) i = F.ref01_Compare_l6 K k a b i
  | 0, _ => by rw [F.ref01_Compare_ro_l6, F.ref01_Compare_l6]
  | k + 1, i => by
    rw [F.ref01_Compare_ro_l6, F.ref01_Compare_l6]
    simp only [bi_eq, dl_nth, dl_len, toL_l, cmpro_loop K a b k]
theorem cmpro_ok {K : Nat} (hK : 2000 ≤ K) {a b : Int} (a0 : 0 ≤ a) (b0 : 0 ≤ b) (ha : (rl a).length ≤ 1000) : F.ref01_Compare_ro K (dl (rl a)) (dl (rl b)) = some (cmp3 a b) := by
  rw [← compare_ok hK a0 b0 ha]
  unfold F.ref01_Compare_ro F.ref01_Compare
  simp only [bi_eq, dl_len, toL_l, cmpro_loop]
theorem rl_pos_len {n : Int} (h : 0 < n) : 0 < (rl n).length := by rw [rl_pos h]; simp
/-- Rests as data. -/
def rests (n : Nat) (f : Nat → Int) : List (List D) := tab n fun j => [D.l (dl (rl (f j)))]
theorem rests_nth {n : Nat} {f : Nat → Int} {j : Nat} (h : j < n) : (nth d0 (nth [] (rests n f) j) 0).toL = dl (rl (f j)) := by
  unfold rests
  rw [tab_nth h]; rfl
/-- How far the search has come. -/
def Bst (n : Nat) (g : Nat) (b : Int) (i : Nat) : Prop := (b = -1 ∨ ∃ p : Nat, b = (p : Int) ∧ p < i) ∧ (g < i → b = (g : Int))
theorem d35_ok {K : Nat} (hK : 2000 ≤ K) {n g : Nat} {f : Nat → Int} {l12 : List Int} {q : List Rw} {c m : Int} (hn : n ≤ 64) (hg : g < n) (f0 : ∀ j, j < n → 0 ≤ f j ∧ f j < 1000000000000) (hp : 0 < f g) (hlt : ∀ j, j < g → f j < f g) (hle : ∀ j, g < j → j < n → f j ≤ f g) :
    ∀ (k i : Nat) (b : Int), i ≤ n → n - i < k → Bst n g b i → F.ref05_DocSplit_l35 K k l12 q (rests n f) b (n : Int) (i : Int) c m = some (l12, q, rests n f, (g : Int), c, m)
  | 0, i, b, _, hk, _ => by omega
  | k + 1, i, b, hi, hk, hb => by
    rw [F.ref05_DocSplit_l35]
    simp only [bi_eq, Int.toNat_natCast]
    have hlen : (rests n f).length = n := tab_len _ _
    by_cases e : i = n
    · rw [if_neg (by simp <;> omega), hb.2 (by omega)]
    · have hi' : i < n := by omega
      have fi := f0 i hi'
      have e0 : IntKind.i64.wrap ((i : Int) + 1) = ((i + 1 : Nat) : Int) := by rw [iw (by omega) (by omega)]; omega
      have small : ∀ j, j < n → (rl (f j)).length ≤ 1000 := fun j hj => Nat.le_trans (rl_len_le (k := 2) (by have := f0 j hj; unfold B32; omega)) (by decide)
      rw [if_pos (by simp <;> omega), if_pos (by rw [hlen]; simp <;> omega)]
      simp only [rests_nth hi', dl_len, e0, toL_l]
      have cI : (decide (0 ≤ (i : Int)) && decide ((i : Int) < ((rests n f).length : Int))) = true := by rw [hlen]; simp <;> omega
      rw [if_pos cI]
      -- what follows, whichever stands best
      have next : ∀ b', Bst n g b' (i + 1) → F.ref05_DocSplit_l35 K k l12 q (rests n f) b' (n : Int) ((i + 1 : Nat) : Int) c m = some (l12, q, rests n f, (g : Int), c, m) := fun b' h => d35_ok hK hn hg f0 hp hlt hle k (i + 1) b' (by omega) (by omega) h
      have stay : i ≠ g ∨ b = (g : Int) → Bst n g b (i + 1) := fun h => ⟨by
        rcases hb.1 with h | ⟨p, h1, h2⟩
        · exact .inl h
        · exact .inr ⟨p, h1, by omega⟩, fun hh => by
        rcases h with h | h
        · exact hb.2 (by omega)
        · exact h⟩
      have take : (g < i → False) → Bst n g (i : Int) (i + 1) := fun h => ⟨.inr ⟨i, rfl, by omega⟩, fun hh => by
        have : ¬ g < i := h
        have : g = i := by omega
        rw [this]⟩
      have here : (i = g → 0 < f i) → (if decide (b < 0) = true then F.ref05_DocSplit_l35 K k l12 q (rests n f) (i : Int) (n : Int) ((i + 1 : Nat) : Int) c m
          else if (decide (0 ≤ b) && decide (b < ((rests n f).length : Int))) = true then
            (F.ref01_Compare_ro K (dl (rl (f i))) (nth d0 (nth [] (rests n f) b.toNat) 0).toL).bind fun r0 => if decide (r0 > 0) = true then F.ref05_DocSplit_l35 K k l12 q (rests n f) (i : Int) (n : Int) ((i + 1 : Nat) : Int) c m else F.ref05_DocSplit_l35 K k l12 q (rests n f) b (n : Int) ((i + 1 : Nat) : Int) c m
          else none) = some (l12, q, rests n f, (g : Int), c, m) := fun _ => by
        by_cases b0 : b < 0
        · rw [if_pos (by simpa using b0)]
          exact next _ (take fun h => by have := hb.2 h; omega)
        · rw [if_neg (by simpa using b0)]
          rcases hb.1 with h | ⟨p, h1, h2⟩
          · omega
          subst h1
          have fp := f0 p (by omega)
          rw [if_pos (by rw [hlen]; simp <;> omega), Int.toNat_natCast, rests_nth (by omega), cmpro_ok hK fi.1 fp.1 (small i hi'), Option.bind_some]
          by_cases h3 : f p < f i
          · have : cmp3 (f i) (f p) = 1 := by unfold cmp3; rw [if_neg (by omega), if_pos h3]
            rw [this, if_pos (by decide)]
            refine next _ (take fun h => ?_)
            have := hb.2 h
            have : p = g := by omega
            subst this
            have := hle i h hi'
            omega
          · have : ¬ cmp3 (f i) (f p) > 0 := by unfold cmp3; rw [if_neg h3]; split <;> decide
            rw [if_neg (by simpa using this)]
            refine next _ (stay ?_)
            by_cases c : i = g
            · exfalso
              subst c
              have := hlt p h2
              omega
            · exact .inl c
      by_cases z : 0 < f i
      · rw [if_pos (by simpa using rl_pos_len z)]
        exact here fun _ => z
      · have z0 : f i = 0 := by omega
        have ig : i ≠ g := fun e => by rw [e] at z; omega
        rw [if_neg (by rw [z0, rl_zero (by omega)]; decide)]
        refine ambO_same fun t => ?_
        cases t with
        | true => rw [if_pos rfl]; exact here fun h => absurd h ig
        | false => rw [if_neg (by decide)]; exact next _ (stay (.inl ig))
/-- Behind t units: which rests are gone, who has one unit more. -/
noncomputable def gone_ {T S : Int} {w : List Int} {σ : Nat → Nat} (h : Ordn T S w σ) (t : Nat) (j : Nat) : Int := if plc h j < t then 0 else sr T S w j
noncomputable def given {T S : Int} {w : List Int} {σ : Nat → Nat} (h : Ordn T S w σ) (t : Nat) (j : Nat) : Int := sq T S w j + if plc h j < t then 1 else 0
theorem rest_pos {T S : Int} {w : List Int} {σ : Nat → Nat} (h : Ordn T S w σ) (hs : Spl T S w) {t : Nat} (ht : (t : Int) < lft T S w) : 0 < sr T S w (σ t) := by
  have hl := hs.left
  have htn : t < w.length := by omega
  rcases Int.lt_or_le 0 (sr T S w (σ t)) with c | c
  · exact c
  exfalso
  have m := hs.left_mul
  rw [sm_ord h] at m
  have p := hs.pos
  have bd : sm (fun u => Wide.sr T S w (σ u)) w.length ≤ sm (fun u => if (u : Int) < (t : Int) then S - 1 else 0) w.length := by
    have mono : ∀ (f g : Nat → Int) (n : Nat), (∀ u, u < n → f u ≤ g u) → sm f n ≤ sm g n := by
      intro f g n
      induction n with
      | zero => intro _; exact Int.le_refl _
      | succ n ih => intro hh; rw [sm, sm]; have := ih fun u hu => hh u (by omega); have := hh n (by omega); omega
    refine mono _ _ _ fun u hu => ?_
    by_cases k : (u : Int) < (t : Int)
    · rw [if_pos k]; have := hs.sr (σ u); omega
    · rw [if_neg k]
      by_cases k2 : u = t
      · rw [k2]; exact c
      · have := h.ord t u (by omega) hu
        unfold LtR at this
        omega
  have cnt : sm (fun u => if (u : Int) < (t : Int) then S - 1 else 0) w.length = (S - 1) * (t : Int) := by
    have e : (fun u : Nat => if (u : Int) < (t : Int) then S - 1 else 0) = fun u : Nat => (S - 1) * (if (u : Int) < (t : Int) then 1 else 0) := by
      funext u; split <;> simp
    rw [e, sm_mul, sm_count _ (by omega), if_pos (by omega)]
  rw [cnt] at bd
  have h1 : ((t : Int) + 1) * S ≤ lft T S w * S := Int.mul_le_mul_of_nonneg_right (by omega) (by omega)
  rw [m, Int.add_mul, Int.one_mul] at h1
  have h2 : (S - 1) * (t : Int) = (t : Int) * S - (t : Int) := by rw [Int.sub_mul, Int.one_mul, Int.mul_comm]
  omega
theorem d32_ok {K : Nat} (hK : 2000 ≤ K) {T S c m : Int} {w : List Int} {σ : Nat → Nat} (h : Ordn T S w σ) (hs : Spl T S w) : ∀ (k t : Nat), (t : Int) ≤ lft T S w → (lft T S w).toNat - t < k →
    F.ref05_DocSplit_l32 K k (rl (lft T S w - t)) (tab w.length fun j => [c, given h t j]) (rests w.length (gone_ h t)) c m = some (tab w.length fun j => [c, size h j], c, m)
  | 0, t, _, hk => by omega
  | k + 1, t, ht, hk => by
    have hl := hs.left
    have hn := hs.len
    have top := hs.top
    rw [F.ref05_DocSplit_l32]
    simp only [bi_eq]
    by_cases e : (t : Int) = lft T S w
    · rw [if_neg (by rw [← e, Int.sub_self, rl_zero (by omega)]; decide)]
      have : (tab w.length fun j => [c, given h t j]) = tab w.length fun j => [c, size h j] := tab_congr fun j hj => by
        unfold given size bump
        rw [← e]
        by_cases k : plc h j < t
        · rw [if_pos k, if_pos (by omega)]
        · rw [if_neg k, if_neg (by omega)]
      rw [this]
    · have htl : (t : Int) < lft T S w := by omega
      have htn : t < w.length := by omega
      have gr := h.rng t htn
      have pt := plc_at h htn
      have hpos := rest_pos h hs htl
      have fg : gone_ h t (σ t) = sr T S w (σ t) := by unfold gone_; rw [pt, if_neg (by omega)]
      have srb : ∀ j, 0 ≤ sr T S w j ∧ sr T S w j < 1000000000000 := fun j => by have := hs.sr j; omega
      have f0 : ∀ j, j < w.length → 0 ≤ gone_ h t j ∧ gone_ h t j < 1000000000000 := fun j hj => by
        have := srb j
        unfold gone_; split <;> omega
      have cmpj : ∀ j, j < w.length → j ≠ σ t → gone_ h t j < gone_ h t (σ t) ∨ (gone_ h t j = gone_ h t (σ t) ∧ σ t < j) := fun j hj hne => by
        have pj := plc_spec h hj
        rw [fg]
        unfold gone_
        by_cases k1 : plc h j < t
        · rw [if_pos k1]; exact .inl hpos
        · rw [if_neg k1]
          have : plc h j ≠ t := fun e => hne (by rw [← pj.2, e])
          have := h.ord t (plc h j) (by omega) pj.1
          rw [pj.2] at this
          unfold LtR at this
          omega
      have key := d35_ok (K := K) hK (q := tab w.length fun j => [c, given h t j]) (l12 := rl (lft T S w - t)) (c := c) (m := m) hn gr f0 (by rw [fg]; exact hpos)
        (fun j hj => by have := cmpj j (by omega) (by omega); omega) (fun j hj hj2 => by have := cmpj j hj2 (by omega); omega) K 0 (-1) (by omega) (by omega) ⟨.inl rfl, fun h => by omega⟩
      have hlen : (rests w.length (gone_ h t)).length = w.length := tab_len _ _
      have key : F.ref05_DocSplit_l35 K K (rl (lft T S w - t)) (tab w.length fun j => [c, given h t j]) (rests w.length (gone_ h t)) (-1) (w.length : Int) 0 c m = _ := key
      rw [if_pos (by simpa using rl_pos_len (show 0 < lft T S w - t by omega)), hlen, key, Option.bind_some]
      have c1 : (decide (0 ≤ (σ t : Int)) && decide ((σ t : Int) < ((tab w.length fun j => [c, given h t j]).length : Int))) = true := by rw [tab_len]; simp <;> omega
      have c2 : (decide (0 ≤ (σ t : Int)) && decide ((σ t : Int) < ((rests w.length (gone_ h t)).length : Int))) = true := by rw [hlen]; simp <;> omega
      simp only [c1, c2, if_true, Int.toNat_natCast]
      rw [word_ok (by omega) (by decide), Option.bind_some, minus_ok hK (by decide) (by omega) (Nat.le_trans (rl_len_le (k := 2) (by unfold B32; omega)) (by decide)), Option.bind_some, tab_nth gr]
      have sqb := hs.sq gr
      have tot := hs.tot
      have g1 : given h t (σ t) = sq T S w (σ t) := by unfold given; rw [pt, if_neg (by omega)]; omega
      have n0 : nth 0 [c, given h t (σ t)] 0 = c := rfl
      have n1 : nth 0 [c, given h t (σ t)] 1 = given h t (σ t) := rfl
      have e1 : IntKind.i64.wrap (given h t (σ t) + 1) = given h (t + 1) (σ t) := by
        rw [g1, iw (by omega) (by omega)]; unfold given; rw [pt, if_pos (by omega)]
      have pl : ∀ j, j < w.length → j ≠ σ t → (plc h j < t + 1 ↔ plc h j < t) := fun j hj hne => by
        have pj := plc_spec h hj
        have : plc h j ≠ t := fun e => hne (by rw [← pj.2, e])
        omega
      have eq1 : (tab w.length fun j => [c, given h t j]).set (σ t) [nth 0 [c, given h t (σ t)] 0, IntKind.i64.wrap (nth 0 [c, given h t (σ t)] 1 + 1)] = tab w.length fun j => [c, given h (t + 1) j] := by
        rw [tab_set, n0, n1, e1]
        refine tab_congr fun j hj => ?_
        by_cases k : j = σ t
        · rw [if_pos k, k]
        · rw [if_neg k]
          unfold given
          simp only [pl j hj k]
      have eq2 : (rests w.length (gone_ h t)).set (σ t) (setP (nth [] (rests w.length (gone_ h t)) (σ t)) 0 (D.l [])) = rests w.length (gone_ h (t + 1)) := by
        unfold rests
        rw [tab_nth gr, tab_set]
        refine tab_congr fun j hj => ?_
        by_cases k : j = σ t
        · rw [if_pos k, k]
          have : gone_ h (t + 1) (σ t) = 0 := by unfold gone_; rw [pt, if_pos (by omega)]
          rw [this, rl_zero (n := 0) (by decide)]; rfl
        · rw [if_neg k]
          unfold gone_
          simp only [pl j hj k]
      rw [eq1, eq2, show lft T S w - (t : Int) - 1 = lft T S w - ((t + 1 : Nat) : Int) by omega]
      exact d32_ok hK h hs k (t + 1) (by omega) (by omega)
theorem d44_ok {K : Nat} {c m : Int} {n : Nat} {f : Nat → Int} (hn : n ≤ 64) (fb : ∀ j, j < n → 0 ≤ f j ∧ f j ≤ 20000000000000) : ∀ (k i : Nat), i ≤ n → n - i < k →
    F.ref05_DocSplit_l44 K k (tab n fun j => [c, if j < i then sg m (f j) else f j]) (n : Int) (i : Int) c m = some (tab n fun j => [c, sg m (f j)])
  | 0, i, _, hk => by omega
  | k + 1, i, hi, hk => by
    rw [F.ref05_DocSplit_l44]
    simp only [bi_eq, Int.toNat_natCast]
    by_cases e : i = n
    · rw [if_neg (by simp <;> omega)]
      rw [e]
      exact congrArg some (tab_congr fun j hj => by rw [if_pos hj])
    · have hi' : i < n := by omega
      have ih := d44_ok (K := K) (c := c) (m := m) hn fb k (i + 1) hi' (by omega)
      have fi := fb i hi'
      have e0 : IntKind.i64.wrap ((i : Int) + 1) = ((i + 1 : Nat) : Int) := by rw [iw (by omega) (by omega)]; omega
      have cI : (decide (0 ≤ (i : Int)) && decide ((i : Int) < ((tab n fun j => [c, if j < i then sg m (f j) else f j]).length : Int))) = true := by rw [tab_len]; simp <;> omega
      rw [if_pos (by simp <;> omega)]
      simp only [e0, cI, if_true]
      by_cases d : m < 0
      · rw [if_pos (by simpa using d), tab_nth hi', tab_set, if_neg (by omega)]
        rw [← ih]
        congr 1
        refine tab_congr fun j hj => ?_
        by_cases k : j = i
        · subst k
          rw [if_pos rfl, if_pos (by omega)]
          show [c, IntKind.i64.wrap (0 - f j)] = _
          rw [iw (by omega) (by omega)]
          unfold sg; rw [if_pos d]; congr 2; omega
        · rw [if_neg k]
          by_cases k2 : j < i
          · rw [if_pos k2, if_pos (by omega)]
          · rw [if_neg k2, if_neg (by omega)]
      · rw [if_neg (by simpa using d), ← ih]
        congr 1
        refine tab_congr fun j hj => ?_
        have : sg m (f j) = f j := by unfold sg; rw [if_neg d]
        rw [this]; split <;> split <;> rfl
theorem d2_good {K : Nat} {w : List Int} {c m : Int} (hl : w.length ≤ 9223372036854775807) (hw : Wok w) : ∀ (k i : Nat), i ≤ w.length → w.length - i < k → F.ref05_DocSplit_l2 K k w w (w.length : Int) (i : Int) c m = some (Sum.inl (w, c, m))
  | 0, i, _, hk => by omega
  | k + 1, i, hi, hk => by
    rw [F.ref05_DocSplit_l2]
    simp only [bi_eq, Int.toNat_natCast]
    by_cases e : i = w.length
    · rw [if_neg (by simp <;> omega)]
    · have hi' : i < w.length := by omega
      have a := hw i hi'
      have e0 : IntKind.i64.wrap ((i : Int) + 1) = ((i + 1 : Nat) : Int) := by rw [iw (by omega) (by omega)]; omega
      rw [if_pos (by simp <;> omega), if_pos (by simp <;> omega), if_neg (by simp <;> omega), if_neg (by simp <;> omega), e0]
      exact d2_good hl hw k (i + 1) hi' (by omega)
theorem d2_bad {K : Nat} {w : List Int} {c m : Int} (hl : w.length ≤ 9223372036854775807) : ∀ (k i : Nat), (∃ j, i ≤ j ∧ j < w.length ∧ ¬ (0 ≤ nth 0 w j ∧ nth 0 w j ≤ 1000000000)) → w.length - i < k → F.ref05_DocSplit_l2 K k w w (w.length : Int) (i : Int) c m = some (Sum.inr ([], 1))
  | 0, i, h, hk => by obtain ⟨j, j1, j2, _⟩ := h; omega
  | k + 1, i, h, hk => by
    obtain ⟨j, j1, j2, j3⟩ := h
    rw [F.ref05_DocSplit_l2]
    simp only [bi_eq, Int.toNat_natCast]
    have e0 : IntKind.i64.wrap ((i : Int) + 1) = ((i + 1 : Nat) : Int) := by rw [iw (by omega) (by omega)]; omega
    rw [if_pos (by simp <;> omega), if_pos (by simp <;> omega), e0]
    by_cases a : nth 0 w i < 0
    · rw [if_pos (by simpa using a)]
    · rw [if_neg (by simpa using a)]
      by_cases b : nth 0 w i > 1000000000
      · rw [if_pos (by simpa using b)]
      · rw [if_neg (by simpa using b)]
        refine d2_bad hl k (i + 1) ⟨j, ?_, j2, j3⟩ (by omega)
        rcases Nat.lt_or_ge i j with c | c
        · exact c
        · exfalso
          have : j = i := by omega
          subst this
          omega
theorem d13_ok {K : Nat} (hK : 2000 ≤ K) {w : List Int} {c m : Int} (hw : Wok w) (hn : w.length ≤ 64) : ∀ (k i : Nat), i ≤ w.length → w.length - i < k →
    F.ref05_DocSplit_l13 K k w (rl (sm (nth 0 w) i)) w (w.length : Int) (i : Int) c m = some (w, rl (sm (nth 0 w) w.length), c, m)
  | 0, i, _, hk => by omega
  | k + 1, i, hi, hk => by
    rw [F.ref05_DocSplit_l13]
    simp only [bi_eq, Int.toNat_natCast]
    by_cases e : i = w.length
    · rw [if_neg (by simp <;> omega), e]
    · have hi' : i < w.length := by omega
      have a := hw i hi'
      have b := sm_bd (f := nth 0 w) (A := 1000000000) (n := i) fun q hq => hw q (by omega)
      have e0 : IntKind.i64.wrap ((i : Int) + 1) = ((i + 1 : Nat) : Int) := by rw [iw (by omega) (by omega)]; omega
      rw [if_pos (by simp <;> omega), if_pos (by simp <;> omega), uw (by omega) (by omega), word_ok (by omega) (by unfold Word; omega), Option.bind_some,
        plus_ok hK b.1 a.1 (Nat.le_trans (rl_len_le (k := 2) (by unfold B32; omega)) (by decide)) (Nat.le_trans (rl_len_le (k := 2) (by unfold B32; omega)) (by decide)), Option.bind_some, e0]
      exact d13_ok hK hw hn k (i + 1) hi' (by omega)
theorem d24_ok {K : Nat} (hK : 40000 ≤ K) {T S c m : Int} {w : List Int} (h : Spl T S w) : ∀ (k i : Nat) (q : Nat → Rw), i ≤ w.length → w.length - i < k → (∀ j, j < i → q j = [c, sq T S w j]) →
    F.ref05_DocSplit_l24 K k (rl S) (rl T) (rl (T - sm (sq T S w) i)) (tab w.length q) (rests w.length fun j => if j < i then sr T S w j else 0) w (w.length : Int) (i : Int) c m = some (rl (lft T S w), (tab w.length fun j => [c, sq T S w j]), rests w.length (sr T S w), c, m)
  | 0, i, q, _, hk, _ => by omega
  | k + 1, i, q, hi, hk, hq => by
    have hn := h.len
    rw [F.ref05_DocSplit_l24]
    simp only [bi_eq, Int.toNat_natCast]
    by_cases e : i = w.length
    · rw [if_neg (by simp <;> omega)]
      have e1 : tab w.length q = tab w.length fun j => [c, sq T S w j] := tab_congr fun j hj => hq j (by omega)
      have e2 : (rests w.length fun j => if j < i then sr T S w j else 0) = rests w.length (sr T S w) := tab_congr fun j hj => by
        show [D.l (dl (rl (if j < i then sr T S w j else 0)))] = _
        rw [if_pos (by omega)]
      rw [e1, e2, e]; rfl
    · have hi' : i < w.length := by omega
      have a1 := h.wok i hi'
      have a2 := h.tw hi'
      have a3 := h.pos
      have a4 := h.top
      have a5 := h.tot
      have a7 := h.sq hi'
      have a8 := h.sr i
      have a9 := h.sums hi
      have a10 := h.sums (i := i + 1) hi'
      have lf : sm (Wide.sq T S w) (i + 1) ≤ T := by
        have l0 := h.left
        have mono : ∀ n, i + 1 + n ≤ w.length → sm (Wide.sq T S w) (i + 1) ≤ sm (Wide.sq T S w) (i + 1 + n) := by
          intro n
          induction n with
          | zero => intro _; exact Int.le_refl _
          | succ n ih => intro hh; have := ih (by omega); have := (h.sq (i := i + 1 + n) (by omega)).1; have e1 : sm (Wide.sq T S w) (i + 1 + (n + 1)) = sm (Wide.sq T S w) (i + 1 + n) + Wide.sq T S w (i + 1 + n) := rfl; rw [e1]; omega
        have := mono (w.length - (i + 1)) (by omega)
        rw [show i + 1 + (w.length - (i + 1)) = w.length by omega] at this
        unfold lft at l0
        omega
      have sm1 : sm (Wide.sq T S w) (i + 1) = sm (Wide.sq T S w) i + Wide.sq T S w i := rfl
      have e0 : IntKind.i64.wrap ((i : Int) + 1) = ((i + 1 : Nat) : Int) := by rw [iw (by omega) (by omega)]; omega
      have lenw : ∀ x : Int, x < 18446744073709551616 → (rl x).length ≤ 1000 := fun x hx => Nat.le_trans (rl_len_le (k := 2) (by unfold B32; omega)) (by decide)
      have q1 : T * nth 0 w i / S = Wide.sq T S w i := rfl
      have q2 : T * nth 0 w i % S = Wide.sr T S w i := rfl
      rw [if_pos (by simp <;> omega), if_pos (by simp <;> omega), uw (by omega) (by omega), word_ok (by omega) (by unfold Word; omega), Option.bind_some,
        times_ok (by omega) a5.1 a1.1 (lenw _ (by omega)) (lenw _ (by omega)), Option.bind_some,
        rquo_ok hK a2.1 a3 (Nat.le_trans (rl_len_le (k := 3) (by unfold B32; omega)) (by decide)) (lenw _ (by omega)), Option.bind_some, q1, q2]
      simp only
      rw [rfits_ok (by omega) a7.1 (by unfold TOP; omega), Option.bind_some]
      simp only
      rw [if_pos (by rw [tab_len]; simp <;> omega), if_pos (by unfold rests; rw [tab_len]; simp <;> omega), minus_ok (by omega) a7.1 (by omega) (lenw _ (by omega)), Option.bind_some, e0,
        Int.emod_eq_of_lt a7.1 (by omega), iw (x := Wide.sq T S w i) (by omega) (by omega)]
      have eq1 : (tab w.length q).set i [c, Wide.sq T S w i] = tab w.length fun j => if j = i then [c, Wide.sq T S w i] else q j := tab_set _ _ _ _
      have eq2 : (rests w.length fun j => if j < i then sr T S w j else 0).set i (setP (nth [] (rests w.length fun j => if j < i then sr T S w j else 0) i) 0 (D.l (List.map (fun x => [D.i x]) (rl (Wide.sr T S w i))))) = rests w.length fun j => if j < i + 1 then sr T S w j else 0 := by
        unfold rests
        rw [tab_nth hi', tab_set]
        refine tab_congr fun j hj => ?_
        by_cases k : j = i
        · rw [if_pos k, k]
          show [D.l (dl (rl (sr T S w i)))] = [D.l (dl (rl (if i < i + 1 then sr T S w i else 0)))]
          rw [if_pos (by omega)]
        · rw [if_neg k]
          show [D.l (dl (rl (if j < i then sr T S w j else 0)))] = [D.l (dl (rl (if j < i + 1 then sr T S w j else 0)))]
          by_cases k2 : j < i
          · rw [if_pos k2, if_pos (by omega)]
          · rw [if_neg k2, if_neg (by omega)]
      rw [eq1, eq2, show T - sm (Wide.sq T S w) i - Wide.sq T S w i = T - sm (Wide.sq T S w) (i + 1) by rw [sm1]; omega]
      refine d24_ok hK h k (i + 1) _ hi' (by omega) fun j hj => ?_
      by_cases k : j = i
      · rw [if_pos k, k]
      · rw [if_neg k]; exact hq j (by omega)
theorem dform_ok (K : Nat) (c m : Int) : F.ref05_Form K c m = some (decide (Cu c ∧ Am m)) := rform_ok K c m
theorem doc_arg {K : Nat} {c m : Int} {w : List Int} (hK : w.length < K) (hl : w.length ≤ 9223372036854775807) (hw : ¬ Wok w) : F.ref05_DocSplit K c m w = some ([], 1) := by
  have hex : ∃ j, 0 ≤ j ∧ j < w.length ∧ ¬ (0 ≤ nth 0 w j ∧ nth 0 w j ≤ 1000000000) := by
    obtain ⟨j, hj⟩ := Classical.not_forall.1 hw
    obtain ⟨j1, j2⟩ := Classical.not_imp.1 hj
    exact ⟨j, Nat.zero_le _, j1, j2⟩
  have e : F.ref05_DocSplit_l2 K K w w (w.length : Int) 0 c m = _ := d2_bad (K := K) (c := c) (m := m) hl K 0 hex (by omega)
  unfold F.ref05_DocSplit
  rw [e]
  rfl
theorem doc_len {K : Nat} {c m : Int} {w : List Int} (hK : w.length < K) (hl : w.length ≤ 9223372036854775807) (hw : Wok w) (hn : w.length = 0 ∨ 64 < w.length) : F.ref05_DocSplit K c m w = some ([], 2) := by
  have e : F.ref05_DocSplit_l2 K K w w (w.length : Int) 0 c m = _ := d2_good (K := K) (c := c) (m := m) hl hw K 0 (by omega) (by omega)
  unfold F.ref05_DocSplit
  rw [e]
  simp only [casO, bi_eq, Option.bind_some]
  rcases hn with h | h
  · rw [if_pos (by rw [h]; decide)]
  · rw [if_neg (by simpa using (show ¬ ((w.length : Int) = 0) by omega)), if_pos (by simp <;> omega)]
theorem doc_form {K : Nat} {c m : Int} {w : List Int} (hK : w.length < K) (hw : Wok w) (hn : 1 ≤ w.length ∧ w.length ≤ 64) (hf : ¬ (Cu c ∧ Am m)) : F.ref05_DocSplit K c m w = some ([], 3) := by
  have e : F.ref05_DocSplit_l2 K K w w (w.length : Int) 0 c m = _ := d2_good (K := K) (c := c) (m := m) (by omega) hw K 0 (by omega) (by omega)
  unfold F.ref05_DocSplit
  rw [e]
  simp only [casO, bi_eq, Option.bind_some]
  rw [if_neg (by simpa using (show ¬ ((w.length : Int) = 0) by omega)), if_neg (by simp <;> omega), dform_ok, Option.bind_some, if_pos (by rw [decide_eq_false hf]; rfl)]
theorem doc_zero {K : Nat} {c m : Int} {w : List Int} (hK : 2000 ≤ K) (hw : Wok w) (hn : 1 ≤ w.length ∧ w.length ≤ 64) (hf : Cu c ∧ Am m) (hz : sm (nth 0 w) w.length = 0) : F.ref05_DocSplit K c m w = some ([], 5) := by
  have e : F.ref05_DocSplit_l2 K K w w (w.length : Int) 0 c m = _ := d2_good (K := K) (c := c) (m := m) (by omega) hw K 0 (by omega) (by omega)
  have e2 : F.ref05_DocSplit_l13 K K w (rl 0) w (w.length : Int) 0 c m = _ := d13_ok (K := K) (c := c) (m := m) (by omega) hw hn.2 K 0 (by omega) (by omega)
  unfold F.ref05_DocSplit
  rw [e]
  simp only [casO, bi_eq, Option.bind_some]
  rw [if_neg (by simpa using (show ¬ ((w.length : Int) = 0) by omega)), if_neg (by simp <;> omega), dform_ok, Option.bind_some, if_neg (by simpa using hf), word_ok (by omega) (by decide), Option.bind_some, e2, Option.bind_some]
  simp only
  rw [hz, rl_zero (by omega), if_pos (by decide)]
theorem doc_ok {K : Nat} {c m : Int} {w : List Int} (hK : 40000 ≤ K) (hf : Cu c ∧ Am m) (h : Spl (mag m) (sm (nth 0 w) w.length) w) {σ : Nat → Nat} (ho : Ordn (mag m) (sm (nth 0 w) w.length) w σ) :
    F.ref05_DocSplit K c m w = some (tab w.length fun j => [c, sg m (size ho j)], 0) := by
  have hn := h.len
  have hp := h.pos
  have hm := hf.2
  unfold Am at hm
  have n1 : 1 ≤ w.length := by
    rcases Nat.lt_or_ge 0 w.length with c | c
    · exact c
    · rw [show w.length = 0 by omega] at hp; simp [sm] at hp
  have e : F.ref05_DocSplit_l2 K K w w (w.length : Int) 0 c m = _ := d2_good (K := K) (c := c) (m := m) (by omega) h.wok K 0 (by omega) (by omega)
  have e2 : F.ref05_DocSplit_l13 K K w (rl 0) w (w.length : Int) 0 c m = _ := d13_ok (K := K) (c := c) (m := m) (by omega) h.wok hn K 0 (by omega) (by omega)
  have e3 := made_ok (K := K) (x := m) (by omega) (by unfold I64; omega)
  have e3 : F.ref01_Made K m = some (decide (m < 0), rl (mag m)) := e3
  have e4 := d24_ok (K := K) (c := c) (m := m) hK h K 0 (fun _ => List.replicate 2 0) (by omega) (by omega) (fun j hj => by omega)
  have e40 : mag m - sm (sq (mag m) (sm (nth 0 w) w.length) w) 0 = mag m := by simp [sm]
  have e41 : (rests w.length fun j => if j < 0 then sr (mag m) (sm (nth 0 w) w.length) w j else 0) = List.replicate w.length [D.l []] := by
    rw [tab_rep]
    unfold rests
    refine tab_congr fun j hj => ?_
    show [D.l (dl (rl (if j < 0 then sr (mag m) (sm (nth 0 w) w.length) w j else 0)))] = _
    rw [if_neg (by omega), rl_zero (by omega)]; rfl
  rw [e40, e41, ← tab_rep] at e4
  have e4 : F.ref05_DocSplit_l24 K K (rl (sm (nth 0 w) w.length)) (rl (mag m)) (rl (mag m)) (List.replicate w.length (List.replicate 2 0)) (List.replicate w.length [D.l []]) w (w.length : Int) 0 c m = _ := e4
  have hl := h.left
  have e5 := d32_ok (K := K) (by omega) (c := c) (m := m) ho h K 0 (by omega) (by omega)
  have e50 : (tab w.length fun j => [c, given ho 0 j]) = tab w.length fun j => [c, sq (mag m) (sm (nth 0 w) w.length) w j] := tab_congr fun j hj => by unfold given; rw [if_neg (by omega), Int.add_zero]
  have e51 : rests w.length (gone_ ho 0) = rests w.length (sr (mag m) (sm (nth 0 w) w.length) w) := tab_congr fun j hj => by unfold gone_; rw [if_neg (by omega)]
  rw [e50, e51, show lft (mag m) (sm (nth 0 w) w.length) w - ((0 : Nat) : Int) = lft (mag m) (sm (nth 0 w) w.length) w by omega] at e5
  have e6 := d44_ok (K := K) (c := c) (m := m) (n := w.length) (f := size ho) hn (fun j hj => by
    have := h.sq hj
    have := h.tot
    unfold size
    rcases bump_bd ho j with b | b <;> omega) K 0 (by omega) (by omega)
  have e60 : (tab w.length fun j => [c, if j < 0 then sg m (size ho j) else size ho j]) = tab w.length fun j => [c, size ho j] := tab_congr fun j hj => by rw [if_neg (by omega)]
  rw [e60] at e6
  have e6 : F.ref05_DocSplit_l44 K K (tab w.length fun j => [c, size ho j]) (w.length : Int) 0 c m = _ := e6
  unfold F.ref05_DocSplit
  rw [e]
  simp only [casO, bi_eq, Option.bind_some]
  rw [if_neg (by simpa using (show ¬ ((w.length : Int) = 0) by omega)), if_neg (by simp <;> omega), dform_ok, Option.bind_some, if_neg (by simpa using hf), word_ok (by omega) (by decide), Option.bind_some, e2, Option.bind_some]
  simp only
  rw [if_neg (by have := rl_pos_len hp; simpa using (show ¬ (((rl (sm (nth 0 w) w.length)).length : Int) = 0) by omega)), e3, Option.bind_some, if_pos (by simp <;> omega), if_pos (by simp <;> omega)]
  simp only [Int.toNat_natCast]
  rw [e4, Option.bind_some]
  simp only
  rw [e5, Option.bind_some]
  simp only
  rw [tab_len, e6, Option.bind_some]
theorem l9_same {K : Nat} {a : List Rw} : ∀ (k i : Nat), i ≤ a.length → a.length < 9223372036854775807 → a.length - i < k → F.law05_MoneySplits_l9 K k a a (a.length : Int) (i : Int) = some (Sum.inl ())
  | 0, i, _, _, hk => by omega
  | k + 1, i, hi, hl, hk => by
    rw [F.law05_MoneySplits_l9]
    simp only [bi_eq, Int.toNat_natCast]
    by_cases e : i = a.length
    · rw [if_neg (by simp <;> omega)]
    · have e0 : IntKind.i64.wrap ((i : Int) + 1) = ((i + 1 : Nat) : Int) := by rw [iw (by omega) (by omega)]; omega
      rw [if_pos (by simp <;> omega), if_pos (by simp <;> omega), if_pos (by simp <;> omega), if_neg (by simp), e0]
      exact l9_same k (i + 1) (by omega) hl (by omega)
/-- Both split alike. -/
theorem both_ok {K : Nat} {c m : Int} {w : List Int} (hK : 40000 ≤ K) (hk : w.length < K) (hl : w.length ≤ 9223372036854775807) : ∃ o e, F.money_Split K c m w = some (o, e) ∧ F.ref05_DocSplit K c m w = some (o, e) ∧ o.length ≤ 64 := by
  by_cases hw : Wok w
  · by_cases hn : w.length = 0 ∨ 64 < w.length
    · exact ⟨_, _, split_len hk hl hw hn, doc_len hk hl hw hn, by simp⟩
    · have hn : 1 ≤ w.length ∧ w.length ≤ 64 := by omega
      by_cases hf : Cu c ∧ Am m
      · by_cases hz : sm (nth 0 w) w.length = 0
        · exact ⟨_, _, split_zero hk hw hn hf hz, doc_zero (by omega) hw hn hf hz, by simp⟩
        · have hm := hf.2
          unfold Am at hm
          have b := sm_bd (f := nth 0 w) (A := 1000000000) (n := w.length) hw
          have hs : Spl (mag m) (sm (nth 0 w) w.length) w := ⟨hw, hn.2, rfl, by omega, by unfold mag; split <;> omega⟩
          obtain ⟨σ, o, ho, e1, e2, e3⟩ := split_ok (K := K) (by omega) hf hs
          have eo : o = tab w.length fun j => [c, sg m (size ho j)] := by
            apply List.ext_getElem
            · rw [e2, tab_len]
            · intro j h1 h2
              have hj : j < w.length := by omega
              rw [← nth_get o h1, ← nth_get _ h2, tab_nth hj]
              have := e3 (plc ho j) (plc_spec ho hj).1
              rw [(plc_spec ho hj).2, part_size ho hj] at this
              exact this
          exact ⟨o, 0, e1, by rw [eo]; exact doc_ok hK hf hs ho, by omega⟩
      · exact ⟨_, _, split_form hk hw hn hf, doc_form hk hw hn hf, by simp⟩
  · exact ⟨_, _, split_arg hk hl hw, doc_arg hk hl hw, by simp⟩
theorem same_loop {K : Nat} {a : List Int} : ∀ (k i : Nat), i ≤ a.length → a.length < 9223372036854775807 → a.length - i < k → F.ref01_SameInts_l4 K k a a (a.length : Int) (i : Int) = some (Sum.inl ())
  | 0, i, _, _, hk => by omega
  | k + 1, i, hi, hl, hk => by
    rw [F.ref01_SameInts_l4]
    simp only [Int.toNat_natCast]
    by_cases e : i = a.length
    · rw [if_neg (by simp <;> omega)]
    · have e0 : IntKind.i64.wrap ((i : Int) + 1) = ((i + 1 : Nat) : Int) := by rw [iw (by omega) (by omega)]; omega
      rw [if_pos (by simp <;> omega), if_pos (by simp <;> omega), if_pos (by simp <;> omega), if_neg (by simp), e0]
      exact same_loop k (i + 1) (by omega) hl (by omega)
theorem same_ok {K : Nat} {a : List Int} (hl : a.length < 9223372036854775807) (hK : a.length < K) : F.ref01_SameInts K a a = some true := by
  have e : F.ref01_SameInts_l4 K K a a (a.length : Int) 0 = _ := same_loop (K := K) (a := a) K 0 (by omega) hl (by omega)
  unfold F.ref01_SameInts
  rw [if_neg (by simp), e]
  rfl
theorem awake05sk (k : Nat) : F.law05_awake (k + 300) = some true := by kernel_rfl
theorem MoneySplits {K : Nat} (hK : 40000 ≤ K) {a b : Int} {l : List Int} (hk : l.length < K) (hl : l.length + 2 ≤ 17592186044416) : F.law05_MoneySplits K a b l = some true := by
  obtain ⟨k, rfl⟩ : ∃ k, K = k + 300 := ⟨K - 300, by omega⟩
  have aw := awake05sk k
  generalize hKe : k + 300 = K at *
  obtain ⟨o, e, h1, h2, h3⟩ := both_ok (K := K) (c := a) (m := b) hK hk (by omega)
  have hs := same_ok (K := K) (a := l) (by omega) hk
  have hl9 : F.law05_MoneySplits_l9 K K o o (o.length : Int) 0 = _ := l9_same (K := K) (a := o) K 0 (by omega) (by omega) (by omega)
  have ew : ([] ++ l : List Int) = l := rfl
  have ecut : List.take (l.length - 0) (List.drop 0 (l ++ [77, 78])) = l := by simp
  have elen : (l ++ [77, 78] : List Int).length = l.length + 2 := by simp
  have e0 : IntKind.i64.wrap ((l.length : Int) + 1) = ((l.length + 1 : Nat) : Int) := by rw [iw (by omega) (by omega)]; omega
  have n0 : nth 0 (l ++ [77, 78]) l.length = 77 := by rw [nth_eq, List.getD_eq_getElem?_getD, List.getElem?_append_right (Nat.le_refl _)]; simp
  have n1 : nth 0 (l ++ [77, 78]) (l.length + 1) = 78 := by rw [nth_eq, List.getD_eq_getElem?_getD, List.getElem?_append_right (by omega)]; simp
  unfold F.law05_MoneySplits
  rw [aw, Option.bind_some]
  simp only [bi_eq, ew, ecut, elen, h1, h2, Option.bind_some, e0, Int.toNat_natCast, n0, n1, hs, hl9, casO]
  rw [if_neg (by decide), if_pos (by simp <;> omega), if_pos (by simp <;> omega), if_pos (by simp <;> omega), if_neg (by simp), if_neg (by simp), if_pos (by simp <;> omega), if_neg (by decide), if_pos (by simp <;> omega), if_neg (by decide), if_pos (by simp <;> omega), if_neg (by decide)]
open Go.ChangeShapes in
/-- How long a slice of numbers is that comes second, behind an amount: no longer than the reach allows. -/
theorem row_second {H : Type} {enc : TypeId × Value → H} {P : Program} {w : World} {b0 : Nat} {spare : Nat → Bool} {held : Bool} {k0 k1 k : IntKind} {o : Bool} {Vs : List Value} {x0 x1 : Int} {xs : List Int} {gs : List (Option (Nat × Nat))} {ts vt : List TypeId} {ds vs : List (DataW H)} {pl : List MemPlace}
    (h : RdA w [.agg [.int k0, .int k1], .one (.row k o)] Vs [.i x0, .i x1, .r xs] gs) (hT : DataW.TrodAll enc P w b0 spare held ts Vs ds pl) {t e : TypeId} (ht : ts[1]? = some t) (hu : P.underlying t = some (.slice e))
    (hw : (DataW.weightsEach P (ts ++ vt) (ds ++ vs)).all (· ≤ reachBytes) = true) : xs.length * P.bytesOf e ≤ reachBytes := by
  obtain ⟨cs, es, h1, h2, h3, h4⟩ := h.make 0 []
  obtain ⟨a4, _⟩ := h4 ⟨fun _ => True, fun _ => True⟩ (fun q => gs.getD q none) (fun q => es[q]?) (fun i e he => ⟨trivial, by simpa using he, by simp⟩)
  have h1 : some ([PV.agg [.val (.int k0 x0), .val (.int k1 x1)], .one (.slf 0)], ([⟨o, .row k xs⟩] : List Ent), ([] : List U)) = some (cs, es, []) := h1
  simp only [Option.some.injEq, Prod.mk.injEq] at h1
  obtain ⟨rfl, rfl, -⟩ := h1
  match Vs, a4 with
  | [V0, V1], h6 =>
    obtain ⟨_, _, h7⟩ := h6.2.1
    have hV : ∃ a c, V1 = .slice a xs.length c := by
      rcases h7 ⟨o, .row k xs⟩ (by simp) with ⟨z, a, rfl⟩ | ⟨g, b, c, _, rfl, _⟩
      · have z : xs.length = 0 := z
        exact ⟨a, 0, by rw [z]⟩
      · exact ⟨_, c, rfl⟩
    obtain ⟨a, c, rfl⟩ := hV
    match ts, hT, ht with
    | t0 :: t1 :: tr, hT, ht =>
      obtain rfl : t1 = t := Option.some.inj ht
      obtain ⟨_, _, d0, ds', _, _, e1, rfl, _, _, hT'⟩ := trodAll_cons hT
      obtain ⟨rfl, rfl⟩ := by simpa using e1
      obtain ⟨_, _, d1, ds'', _, _, e2, rfl, _, ⟨fuel, hd⟩, _⟩ := trodAll_cons hT'
      obtain ⟨rfl, rfl⟩ := by simpa using e2
      rcases Go.Deep.open_slice hu hd with ⟨h1, _⟩ | ⟨a', len', cap', m, n, D, Pl, h1, _, _, _, _, h2, _⟩
      · have h1' : [Value.slice a xs.length c] = [Value.slice none 0 0] := h1
        have : xs.length = 0 := by simp only [List.cons.injEq, Value.slice.injEq, and_true] at h1'; exact h1'.2.1
        rw [this]; simp
      · have h1' : [Value.slice a xs.length c] = [Value.slice (some a') len' cap'] := h1
        have hl : xs.length = len' := by simp only [List.cons.injEq, Value.slice.injEq, and_true] at h1'; exact h1'.2.1
        have hd1 : d1 = .slice ((List.range len').map D) ((List.range (m - len')).map fun j => D (len' + j)) := congrArg Prod.fst h2
        have s := sized_slice hw (j := 1) (t := t1) (e := e) (elems := (List.range len').map D) (spare := (List.range (m - len')).map fun j => D (len' + j)) (by simp) (by simp [hd1]) hu
        refine Nat.le_trans ?_ s
        refine Nat.mul_le_mul_right _ ?_
        simp; omega
namespace L
theorem MoneySplits {a b : Int} {l : List Int} (w0 : (Lit.int .i64 a).wf = true) (w1 : (Lit.int .i64 b).wf = true) (w2 : l.length ≤ maxLen ∧ ∀ y ∈ l, (Lit.int .i64 y).wf = true) (h : l.length * 8 ≤ reachBytes) : ∃ K, F.law05_MoneySplits K a b l = some true :=
  ⟨l.length + 40001, Wide.MoneySplits (by omega) (by omega) (by unfold reachBytes at h; omega)⟩
end L
end Go.Proofs.Ytfeifhlnidkbbaa.Wide
