/- Rows moved about within a part of a list: plain facts for a sort by (rest descending, place ascending). Conditions: none here. -/
import Derived.Test.YtfeifhlnidkbbaaVmB
set_option linter.unusedVariables false
set_option linter.unusedSimpArgs false
namespace Go.Proofs.Ytfeifhlnidkbbaa.Wide
open Go Go.Proofs.Ytfeifhlnidkbbaa.Vm
abbrev Rw := List Int
/-- The order: the greater rest first; of equal ones the one that stood first. -/
def Lt (r s : Rw) : Prop := nth 0 s 1 < nth 0 r 1 ∨ (nth 0 r 1 = nth 0 s 1 ∧ nth 0 r 0 < nth 0 s 0)
theorem Lt.trans {r s t : Rw} (h : Lt r s) (k : Lt s t) : Lt r t := by unfold Lt at *; omega
theorem Lt.irrefl {r : Rw} (h : Lt r r) : False := by unfold Lt at h; omega
theorem Lt.total {r s : Rw} (h : nth 0 r 0 ≠ nth 0 s 0) (k : ¬ Lt r s) : Lt s r := by unfold Lt at *; omega
/-- A part that is sorted. -/
def Srt (l : List Rw) (a b : Nat) : Prop := ∀ i j, a ≤ i → i < j → j < b → Lt (nth [] l i) (nth [] l j)
/-- Moved within a part. -/
structure Mv (l l' : List Rw) (a b : Nat) : Prop where
  len : l'.length = l.length
  out : ∀ i, (i < a ∨ b ≤ i) → nth [] l' i = nth [] l i
  perm : l'.Perm l
  src : ∀ i, a ≤ i → i < b → ∃ j, a ≤ j ∧ j < b ∧ nth [] l' i = nth [] l j
theorem Mv.refl (l : List Rw) (a b : Nat) : Mv l l a b := ⟨rfl, fun _ _ => rfl, List.Perm.refl _, fun i h k => ⟨i, h, k, rfl⟩⟩
theorem Mv.trans {l m n : List Rw} {a b : Nat} (h : Mv l m a b) (k : Mv m n a b) : Mv l n a b :=
  ⟨k.len.trans h.len, fun i hi => (k.out i hi).trans (h.out i hi), k.perm.trans h.perm, fun i h1 h2 => by
    obtain ⟨j, j1, j2, j3⟩ := k.src i h1 h2
    obtain ⟨q, q1, q2, q3⟩ := h.src j j1 j2
    exact ⟨q, q1, q2, j3.trans q3⟩⟩
theorem Mv.widen {l m : List Rw} {a b a' b' : Nat} (h : Mv l m a b) (ha : a' ≤ a) (hb : b ≤ b') : Mv l m a' b' :=
  ⟨h.len, fun i hi => h.out i (by omega), h.perm, fun i h1 h2 => by
    by_cases c : a ≤ i ∧ i < b
    · obtain ⟨j, j1, j2, j3⟩ := h.src i c.1 c.2
      exact ⟨j, by omega, by omega, j3⟩
    · exact ⟨i, h1, h2, h.out i (by omega)⟩⟩
theorem nth_set (l : List Rw) (i j : Nat) (x : Rw) : nth [] (l.set i x) j = if j = i ∧ i < l.length then x else nth [] l j := by
  rw [← put_eq, nth_put]
theorem nth_get (l : List Rw) {i : Nat} (h : i < l.length) : nth [] l i = l[i] := by
  rw [nth_eq, List.getD_eq_getElem?_getD, List.getElem?_eq_getElem h]; rfl
/-- Two rows change their places. -/
def swp (l : List Rw) (i j : Nat) : List Rw := (l.set i (nth [] l j)).set j (nth [] l i)
theorem swp_nth {l : List Rw} {i j : Nat} (hi : i < l.length) (hj : j < l.length) (q : Nat) : nth [] (swp l i j) q = if q = j then nth [] l i else if q = i then nth [] l j else nth [] l q := by
  unfold swp
  rw [nth_set, nth_set, List.length_set]
  by_cases h : q = j
  · rw [if_pos ⟨h, hj⟩, if_pos h]
  · rw [if_neg (fun k => h k.1), if_neg h]
    by_cases h2 : q = i
    · rw [if_pos ⟨h2, hi⟩, if_pos h2]
    · rw [if_neg (fun k => h2 k.1), if_neg h2]
theorem swp_mv {l : List Rw} {a b i j : Nat} (hi : i < l.length) (hj : j < l.length) (i1 : a ≤ i) (i2 : i < b) (j1 : a ≤ j) (j2 : j < b) : Mv l (swp l i j) a b := by
  refine ⟨by simp [swp], fun q hq => ?_, ?_, fun q h1 h2 => ?_⟩
  · rw [swp_nth hi hj, if_neg (by omega), if_neg (by omega)]
  · unfold swp
    rw [nth_get l hi, nth_get l hj]
    exact List.set_set_perm hi hj
  · rw [swp_nth hi hj]
    by_cases h : q = j
    · rw [if_pos h]; exact ⟨i, i1, i2, rfl⟩
    · rw [if_neg h]
      by_cases h3 : q = i
      · rw [if_pos h3]; exact ⟨j, j1, j2, rfl⟩
      · rw [if_neg h3]; exact ⟨q, h1, h2, rfl⟩
/-- Two sorted parts, all of the one ahead of all of the other. -/
theorem Srt.join {l : List Rw} {a m b : Nat} (h : Srt l a m) (k : Srt l m b) (hx : ∀ i j, a ≤ i → i < m → m ≤ j → j < b → Lt (nth [] l i) (nth [] l j)) : Srt l a b := fun i j h1 h2 h3 => by
  by_cases c : j < m
  · exact h i j h1 h2 c
  · by_cases d : i < m
    · exact hx i j h1 d (by omega) h3
    · exact k i j (by omega) h2 h3
theorem Srt.of_out {l l' : List Rw} {a b : Nat} (h : Srt l a b) (e : ∀ i, a ≤ i → i < b → nth [] l' i = nth [] l i) : Srt l' a b := fun i j h1 h2 h3 => by
  rw [e i h1 (by omega), e j (by omega) h3]; exact h i j h1 h2 h3
end Go.Proofs.Ytfeifhlnidkbbaa.Wide
