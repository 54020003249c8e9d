/- digits.Parse: the number of a text, and what a text that is none answers. Conditions: none here. -/
import Derived.Test.YtfeifhlnidkbbaaGreatDoorPTd
set_option linter.unusedVariables false
set_option linter.unusedSimpArgs false
namespace Go.Proofs.YtfeifhlnidkbbaaGreatDoor.Wide
open Go Go.RowKit Go.Proofs.YtfeifhlnidkbbaaGreatDoor.Vm
theorem dv_mono {l m : List Int} (hm : ∀ y ∈ m, dg y) (hl : ∀ y ∈ l, dg y) : dv 0 l ≤ dv 0 (l ++ m) := by
  rw [dv_app]
  exact (dv_nonneg (dv_nonneg (Int.le_refl 0) hl).2 hm).1
theorem dv_48 : ∀ (l : List Int) (v : Int), v = 0 → (∀ y ∈ l, y = 48) → dv v l = 0
  | [], v, h, _ => h
  | c :: l, v, h, hl => by
    rw [dv]
    exact dv_48 l _ (by have := hl c (by simp); omega) fun y hy => hl y (by simp [hy])
theorem pl_step {K k : Nat} {L : List Int} {mn : Bool} {sc z0 z1 z2 z3 z4 : Int} (hd : ∀ x ∈ L, dg x) (hl : L.length ≤ 64) {i : Nat} (hi : i < L.length) (hv : dv 0 L < 170141183460469231731687303715884105728) :
    F.digits_Parse_l7 K (k + 1) mn (strOf L) sc (dv 0 (L.take i) / 18446744073709551616) (dv 0 (L.take i) % 18446744073709551616) (L.length : Int) (i : Int) z0 z1 z2 z3 z4 = F.digits_Parse_l7 K k mn (strOf L) sc (dv 0 (L.take (i + 1)) / 18446744073709551616) (dv 0 (L.take (i + 1)) % 18446744073709551616) (L.length : Int) ((i + 1 : Nat) : Int) z0 z1 z2 z3 z4 := by
  have hs := dv_step (v := 0) hi
  have hm : dv 0 (L.take (i + 1)) ≤ dv 0 L := by
    have := dv_mono (l := L.take (i + 1)) (m := L.drop (i + 1)) (fun y hy => hd y (List.mem_of_mem_drop hy)) (fun y hy => hd y (List.mem_of_mem_take hy))
    rwa [List.take_append_drop] at this
  have h0 := (dv_nonneg (l := L.take i) (v := 0) (Int.le_refl 0) fun y hy => hd y (List.mem_of_mem_take hy)).2
  have hb := (hd _ (nth_mem hi)).bd
  rw [F.digits_Parse_l7]
  rw [hs]
  rw [hs] at hm
  generalize dv 0 (L.take i) = V at *
  generalize hx : nth 0 L i = d at *
  simp only [bi_eq, strOf_size]
  rw [if_pos (by simp; omega), mul64_val K ⟨by omega, by omega⟩ (by decide), Option.bind_some, mul64_val K ⟨by omega, by omega⟩ (by decide), Option.bind_some, if_pos (by simp; omega), bt_strOf hi (By.dg hd), hx]
  have ew : IntKind.u64.wrap (IntKind.u8.wrap (d - 48)) = d - 48 := by rw [wu8, wu]; omega
  rw [ew]
  obtain ⟨p, q, e1, hp, hq, _⟩ := add_st (x := V % 18446744073709551616 * 10 % 18446744073709551616) (y := d - 48) (c := 0) ⟨by omega, by omega⟩ ⟨by omega, by omega⟩ (by decide)
  simp only [e1, Option.bind_some]
  obtain ⟨p', q', e2, hp', hq', _⟩ := add_st (x := V / 18446744073709551616 * 10 % 18446744073709551616) (y := V % 18446744073709551616 * 10 / 18446744073709551616) (c := q) ⟨by omega, by omega⟩ ⟨by omega, by omega⟩ (by omega)
  simp only [e2, Option.bind_some]
  have k1 : p = (10 * V + (d - 48)) % 18446744073709551616 := by omega
  have k2 : p' = (10 * V + (d - 48)) / 18446744073709551616 := by omega
  have k3 : p'.fdiv 9223372036854775808 = 0 := by rw [fd _ _ (by decide)]; omega
  rw [if_neg (by simp; omega), if_neg (by simp; omega), k3, if_neg (by decide), k1, k2, iw (by omega) (by omega), show (i : Int) + 1 = ((i + 1 : Nat) : Int) by omega]
theorem pl_loop {K : Nat} {L : List Int} {mn : Bool} {sc z0 z1 z2 z3 z4 : Int} (hd : ∀ x ∈ L, dg x) (hl : L.length ≤ 64) (hv : dv 0 L < 170141183460469231731687303715884105728) : ∀ (k i : Nat), i ≤ L.length → L.length - i < k →
    F.digits_Parse_l7 K k mn (strOf L) sc (dv 0 (L.take i) / 18446744073709551616) (dv 0 (L.take i) % 18446744073709551616) (L.length : Int) (i : Int) z0 z1 z2 z3 z4 = some (.inl (mn, sc, dv 0 L / 18446744073709551616, dv 0 L % 18446744073709551616, z0, z1, z2, z3, z4))
  | 0, i, _, h => by omega
  | k + 1, i, hi, hk => by
    by_cases c : i < L.length
    · rw [pl_step hd hl c hv]
      exact pl_loop hd hl hv k (i + 1) (by omega) (by omega)
    · have : i = L.length := by omega
      subst this
      rw [F.digits_Parse_l7, bi_eq, if_neg (by simp), List.take_length]
def sv (sg : List Int) (V : Int) : Int := if sg = [45] then -V else V
theorem parse_some {K : Nat} (hK : 400 ≤ K) {t sg L : List Int} {sc : Int} {s : ByteArray × Int} (hl : t.length ≤ 64) (hd : ∀ x ∈ L, dg x) (hL : L.length ≤ 64) (s0 : 0 ≤ sc) (s1 : sc ≤ 18) (hv : dv 0 L < 170141183460469231731687303715884105728)
    (hr : F._digits_reader_read K (strOf t) 0 = some (true, 0, decide (sg = [45]), strOf L, sc, s)) :
    F.digits_Parse K (strOf t) = some (sv sg (dv 0 L) / 18446744073709551616, sv sg (dv 0 L) % 18446744073709551616, sc, 0, 0) := by
  have h0 := (dv_nonneg (l := L) (v := 0) (Int.le_refl 0) hd).2
  unfold F.digits_Parse
  rw [bi_eq, if_neg (by rw [strOf_size]; simp; omega), hr, Option.bind_some, bi_eq, if_pos rfl]
  have w := pl_loop (K := K) (mn := decide (sg = [45])) (sc := sc) (z0 := 0) (z1 := 0) (z2 := 0) (z3 := 0) (z4 := 0) hd hL hv K 0 (by omega) (by omega)
  simp only [List.take_zero, dv, strOf_size] at w ⊢
  have w : F.digits_Parse_l7 K K (decide (sg = [45])) (strOf L) sc 0 0 (L.length : Int) 0 0 0 0 0 0 = _ := w
  rw [w]
  simp only [casO, Option.bind_some, bi_eq]
  rw [iw (by omega) (by omega)]
  unfold sv
  by_cases c : sg = [45]
  · rw [if_pos (by simpa using c), if_pos c, neg_ok (by omega) (hi := dv 0 L / 18446744073709551616) (lo := dv 0 L % 18446744073709551616) ⟨by omega, by omega⟩ ⟨by omega, by omega⟩]
    have e : cf (dv 0 L / 18446744073709551616) (dv 0 L % 18446744073709551616) = dv 0 L := by unfold cf; omega
    rw [if_pos ⟨s0, s1, by omega⟩, e, pack_in (by omega) (by omega), Option.bind_some]
  · rw [if_neg (by simpa using c), if_neg c]
theorem parse_none {K : Nat} {t : List Int} {n : Int} {r : Bool × ByteArray × Int × ByteArray × Int} (hl : t.length ≤ 64) (hr : F._digits_reader_read K (strOf t) 0 = some (false, n, r)) : F.digits_Parse K (strOf t) = some (0, 0, 0, n, 6) := by
  unfold F.digits_Parse
  rw [bi_eq, if_neg (by rw [strOf_size]; simp; omega), hr, Option.bind_some, bi_eq, if_neg (by simp), Option.bind_some]
theorem parse_empty {t sg A R : List Int} (h : Whole t sg A R) {K : Nat} (hK : 400 ≤ K) (hA : A = []) : F.digits_Parse K (strOf t) = some (0, 0, 0, (sg.length : Int), 6) := by
  obtain ⟨r, e⟩ := read_none h (K := K) (by omega) hA
  exact parse_none h.len e
theorem parse_lead {t sg A R : List Int} (h : Whole t sg A R) {K : Nat} (hK : 400 ≤ K) (h1 : 1 < A.length) (h2 : nth 0 A 0 = 48) : F.digits_Parse K (strOf t) = some (0, 0, 0, ((sg.length + 1 : Nat) : Int), 6) := by
  obtain ⟨r, e⟩ := read_lead h (K := K) (by omega) h1 h2
  exact parse_none h.len e
theorem parse_stop {t sg A R : List Int} (h : Whole t sg A R) {K : Nat} (hK : 400 ≤ K) (hA : Front A) {c : Int} {R' : List Int} (hR : R = c :: R') (hc : c ≠ 46) : F.digits_Parse K (strOf t) = some (0, 0, 0, ((sg.length + A.length : Nat) : Int), 6) := by
  obtain ⟨r, e⟩ := tail_stop h (K := K) (mn := decide (sg = [45])) (X := strOf A) hR hc
  exact parse_none h.len ((read_front h (by omega) hA).trans e)
theorem parse_whole {t sg A R : List Int} (h : Whole t sg A R) {K : Nat} (hK : 400 ≤ K) (hA : Front A) (hR : R = []) (hv : dv 0 A < 170141183460469231731687303715884105728) : F.digits_Parse K (strOf t) = some (if sg = [45] ∧ (∀ x ∈ A, x = 48) then (0, 0, 0, 0, 6) else (sv sg (dv 0 A) / 18446744073709551616, sv sg (dv 0 A) % 18446744073709551616, 0, 0, 0)) := by
  obtain ⟨r, s, e⟩ := tail_whole h (K := K) (by omega) hR
  have hz := h.size
  have hl := h.len
  rw [← read_front h (by omega) hA] at e
  by_cases c : sg = [45] ∧ (∀ x ∈ A, x = 48)
  · rw [if_pos ⟨by simpa using c.1, c.2⟩] at e
    rw [if_pos c, parse_none h.len e]
  · rw [if_neg (fun k => c ⟨by simpa using k.1, k.2⟩)] at e
    rw [if_neg c]
    exact parse_some hK h.len h.dig (by omega) (by decide) (by decide) hv e
theorem parse_frac {t sg A R B C : List Int} (h : Whole t sg A R) (f : Frac R B C) {K : Nat} (hK : 400 ≤ K) (hA : Front A) (hB : B.length ≤ 18) (hv : dv 0 (A ++ B) < 170141183460469231731687303715884105728) : F.digits_Parse K (strOf t) = some (
    if B = [] then (0, 0, 0, ((sg.length + A.length + 1 : Nat) : Int), 6) else if C ≠ [] then (0, 0, 0, ((sg.length + A.length + 1 + B.length : Nat) : Int), 6)
    else if sg = [45] ∧ (∀ x ∈ A ++ B, x = 48) then (0, 0, 0, 0, 6) else (sv sg (dv 0 (A ++ B)) / 18446744073709551616, sv sg (dv 0 (A ++ B)) % 18446744073709551616, (B.length : Int), 0, 0)) := by
  obtain ⟨r, s, e⟩ := tail_frac h f (K := K) (by omega)
  have p1 := (frac_pos h f).1
  have hl := h.len
  rw [← read_front h (by omega) hA, if_neg (by omega)] at e
  by_cases b : B = []
  · rw [if_pos b] at e
    rw [if_pos b, parse_none h.len e]
  rw [if_neg b] at e
  rw [if_neg b]
  by_cases d : C ≠ []
  · rw [if_pos d] at e
    rw [if_pos d, parse_none h.len e]
  rw [if_neg d] at e
  rw [if_neg d]
  by_cases c : sg = [45] ∧ (∀ x ∈ A ++ B, x = 48)
  · rw [if_pos ⟨by simpa using c.1, c.2⟩] at e
    rw [if_pos c, parse_none h.len e]
  · rw [if_neg (fun k => c ⟨by simpa using k.1, k.2⟩)] at e
    rw [if_neg c]
    exact parse_some hK h.len (fun x hx => (List.mem_append.1 hx).elim (h.dig x) (f.dig x)) (by simp; omega) (by omega) (by omega) hv e
end Go.Proofs.YtfeifhlnidkbbaaGreatDoor.Wide
