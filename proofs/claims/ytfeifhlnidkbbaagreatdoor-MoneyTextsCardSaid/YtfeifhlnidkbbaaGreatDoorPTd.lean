/- digits.Parse: what it answers, by the parts of a text. Conditions: none here. -/
import Derived.Test.YtfeifhlnidkbbaaGreatDoorPTb
import Derived.Test.YtfeifhlnidkbbaaGreatDoorFW
set_option linter.unusedVariables false
set_option linter.unusedSimpArgs false
namespace Go.Proofs.YtfeifhlnidkbbaaGreatDoor.Wide
open Go Go.RowKit Go.Proofs.YtfeifhlnidkbbaaGreatDoor.Vm
def By (t : List Int) : Prop := ∀ x ∈ t, 0 ≤ x ∧ x < 256
theorem By.app {a b : List Int} (h : By a) (k : By b) : By (a ++ b) := fun x hx => (List.mem_append.1 hx).elim (h x) (k x)
theorem By.left {a b : List Int} (h : By (a ++ b)) : By a := fun x hx => h x (by simp [hx])
theorem By.right {a b : List Int} (h : By (a ++ b)) : By b := fun x hx => h x (by simp [hx])
theorem By.dg {a : List Int} (h : ∀ x ∈ a, dg x) : By a := fun x hx => by have := (h x hx).bd; omega
theorem strOf_ext {l : List Int} (hb : By l) {a b : Nat} (hb2 : b ≤ l.length) : (strOf l).extract a b = strOf ((l.drop a).take (b - a)) := by
  refine (of_bytes ?_ fun i hi => ?_).symm
  · simp [ByteArray.size_extract, strOf_size]; omega
  · simp at hi
    rw [bt_ext (by rw [strOf_size]; omega) (by omega), bt_strOf (by omega) hb, nth_eq, nth_eq, List.getD_eq_getElem?_getD, List.getD_eq_getElem?_getD, List.getElem?_take, if_pos (by omega), List.getElem?_drop]
theorem is_ok (K : Nat) {t : List Int} (hb : By t) (hl : t.length ≤ 64) {i : Nat} {c : Int} : F._digits_reader_is K (strOf t) (i : Int) c = some (if i < t.length ∧ nth 0 t i = c then (true, strOf t, ((i + 1 : Nat) : Int)) else (false, strOf t, (i : Int))) := by
  unfold F._digits_reader_is
  simp only [bi_eq, strOf_size]
  by_cases h : i < t.length
  · rw [if_pos (by simpa using h), if_pos (by simp; omega), bt_strOf h hb]
    by_cases k : nth 0 t i = c
    · rw [if_pos (by simpa using k), if_pos ⟨h, k⟩, iw (by omega) (by omega), show (i : Int) + 1 = ((i + 1 : Nat) : Int) by omega]
    · rw [if_neg (by simpa using k), if_neg (fun x => k x.2)]
  · rw [if_neg (by simpa using h), if_neg (fun x => h x.1)]
theorem dl_loop {K : Nat} {t : List Int} (hb : By t) (hl : t.length ≤ 64) {i e : Nat} {most : Int} (he : e ≤ t.length) (hd : ∀ q, i ≤ q → q < e → dg (nth 0 t q)) (hn : e < t.length → ¬ dg (nth 0 t e)) : ∀ (k q : Nat), i ≤ q → q ≤ e → (q : Int) - i ≤ most → e - q < k →
    F._digits_reader_digits_l2 K k most (i : Int) (strOf t) (q : Int) = some (if most < (e : Int) - i then .inr ((i : Int) + most, strOf t, (i : Int) + most) else .inl ((i : Int), strOf t, (e : Int)))
  | 0, q, _, _, _, h => by omega
  | k + 1, q, h1, h2, h3, h4 => by
    rw [F._digits_reader_digits_l2]
    simp only [bi_eq, strOf_size]
    by_cases c : q < e
    · have dq := (hd q h1 c).bd
      rw [if_pos (by simp; omega), if_pos (by simp; omega), bt_strOf (by omega) hb, if_pos (by simp; omega), if_pos (by simp; omega), if_pos (by simp; omega)]
      rw [iw (x := (q : Int) - i) (by omega) (by omega), iw (x := (q : Int) + 1) (by omega) (by omega)]
      by_cases m : (q : Int) - i = most
      · rw [if_pos (by simpa using m), if_pos (by omega), show (q : Int) = i + most by omega]
      · rw [if_neg (by simpa using m), show (q : Int) + 1 = ((q + 1 : Nat) : Int) by omega]
        exact dl_loop hb hl he hd hn k (q + 1) (by omega) (by omega) (by omega) (by omega)
    · have : q = e := by omega
      subst this
      rw [if_neg (show ¬ most < (q : Int) - i by omega)]
      by_cases z : q < t.length
      · have nd := hn z
        unfold dg at nd
        rw [if_pos (by simp; omega), if_pos (by simp; omega), bt_strOf z hb]
        by_cases g : nth 0 t q ≥ 48
        · rw [if_pos (by simpa using g), if_pos (by simp; omega), if_neg (by simp; omega)]
        · rw [if_neg (by simpa using g)]
      · rw [if_neg (by simp; omega)]
theorem digits_ok {K : Nat} (hK : 100 ≤ K) {t : List Int} (hb : By t) (hl : t.length ≤ 64) {i e : Nat} {most : Int} (h0 : 0 ≤ most) (h1 : most ≤ 1000) (hie : i ≤ e) (he : e ≤ t.length) (hd : ∀ q, i ≤ q → q < e → dg (nth 0 t q)) (hn : e < t.length → ¬ dg (nth 0 t e)) :
    F._digits_reader_digits K (strOf t) (i : Int) most = some (if most < (e : Int) - i then (false, (i : Int) + most, ⟨#[]⟩, ⟨#[]⟩, 0) else if e = i then (false, (i : Int), ⟨#[]⟩, ⟨#[]⟩, 0) else (true, 0, strOf ((t.drop i).take (e - i)), strOf t, (e : Int))) := by
  unfold F._digits_reader_digits
  rw [dl_loop hb hl he hd hn K i (Nat.le_refl _) hie (by omega) (by omega)]
  by_cases c : most < (e : Int) - i
  · rw [if_pos c, if_pos c]
    rfl
  · rw [if_neg c, if_neg c]
    simp only [casO, Option.bind_some, bi_eq, strOf_size, Int.toNat_natCast]
    by_cases d : e = i
    · rw [if_pos (by simp; omega), if_pos d]
    · rw [if_neg (by simp; omega), if_neg d, if_pos (by simp; omega), strOf_ext hb he]
-- Trim of noughts
theorem tr_loop {K : Nat} : ∀ (k : Nat) (t : List Int), By t → t.length ≤ 64 → t.length < k → ∃ u, F.strings_trimRightByte_l1 K k (strOf t) 48 = some (strOf u) ∧ By u ∧ u.length ≤ t.length ∧ ((∃ x ∈ u, x ≠ 48) ↔ ∃ x ∈ t, x ≠ 48) ∧ ((∀ x ∈ t, x = 48) → u = [])
  | 0, t, _, _, h => by omega
  | k + 1, t, hb, hl, hk => by
    rw [F.strings_trimRightByte_l1]
    simp only [bi_eq, strOf_size]
    by_cases z : t = []
    · subst z
      exact ⟨[], by simp, hb, Nat.le_refl _, Iff.rfl, fun _ => rfl⟩
    · have h0 : 0 < t.length := List.length_pos_iff.2 z
      have e : IntKind.i64.wrap ((t.length : Int) - 1) = ((t.length - 1 : Nat) : Int) := by rw [iw (by omega) (by omega)]; omega
      rw [e, if_pos (by simp; omega), if_pos (by simp <;> omega), bt_strOf (by omega) hb]
      have hs : t = t.take (t.length - 1) ++ [nth 0 t (t.length - 1)] := by
        have := List.take_append_drop (t.length - 1) t
        rw [List.drop_eq_getElem_cons (by omega), show t.length - 1 + 1 = t.length by omega, List.drop_length] at this
        rw [nth_eq, List.getD_eq_getElem?_getD, List.getElem?_eq_getElem (by omega)]
        exact this.symm
      by_cases c : nth 0 t (t.length - 1) = 48
      · rw [if_pos (by simpa using c), if_pos (by simp <;> omega), Int.toNat_natCast, strOf_ext hb (by omega)]
        simp only [List.drop_zero, Nat.sub_zero]
        obtain ⟨u, h1, h2, h3, h4, h5⟩ := tr_loop (K := K) k (t.take (t.length - 1)) (fun x hx => hb x (List.mem_of_mem_take hx)) (by simp; omega) (by simp; omega)
        refine ⟨u, h1, h2, by simp at h3; omega, h4.trans ?_, fun h => h5 fun x hx => h x (List.mem_of_mem_take hx)⟩
        constructor
        · rintro ⟨x, hx, hn⟩
          exact ⟨x, List.mem_of_mem_take hx, hn⟩
        · rintro ⟨x, hx, hn⟩
          rw [hs] at hx
          rcases List.mem_append.1 hx with hx | hx
          · exact ⟨x, hx, hn⟩
          · simp only [List.mem_singleton] at hx
            exact absurd (hx.trans c) hn
      · rw [if_neg (by simpa using c)]
        exact ⟨t, rfl, hb, Nat.le_refl _, Iff.rfl, fun h => absurd (h _ (nth_mem (by omega))) c⟩
theorem tl_loop {K : Nat} : ∀ (k : Nat) (t : List Int), By t → t.length ≤ 64 → t.length < k → ∃ u, F.strings_trimLeftByte_l1 K k (strOf t) 48 = some (strOf u) ∧ ((∃ x ∈ t, x ≠ 48) → u ≠ []) ∧ (t = [] → u = [])
  | 0, t, _, _, h => by omega
  | k + 1, [], hb, hl, hk => by
    rw [F.strings_trimLeftByte_l1]
    simp only [bi_eq, strOf_size]
    exact ⟨[], by simp, fun ⟨x, hx, _⟩ => by simp at hx, fun _ => rfl⟩
  | k + 1, c :: t, hb, hl, hk => by
    rw [F.strings_trimLeftByte_l1]
    simp only [bi_eq, strOf_size]
    have e : bt (strOf (c :: t)) 0 = c := bt_strOf (i := 0) (by simp) hb
    rw [if_pos (by simp <;> omega), if_pos (by simp <;> omega), e]
    by_cases z : c = 48
    · rw [if_pos (by simpa using z), if_pos (by simp <;> omega), Int.toNat_natCast, strOf_ext hb (Nat.le_refl _)]
      simp only [List.drop_succ_cons, List.drop_zero, List.length_cons, Nat.add_sub_cancel, List.take_length]
      obtain ⟨u, h1, h2, h3⟩ := tl_loop (K := K) k t (fun x hx => hb x (by simp [hx])) (by simp at hl; omega) (by simp at hk; omega)
      refine ⟨u, h1, fun ⟨x, hx, hn⟩ => h2 ?_, fun h => by cases h⟩
      rcases List.mem_cons.1 hx with rfl | hx
      · exact absurd z hn
      · exact ⟨x, hx, hn⟩
    · rw [if_neg (by simpa using z)]
      exact ⟨c :: t, rfl, fun _ => by simp, fun h => by cases h⟩
theorem strOf_nil {l : List Int} : sEq (strOf l) ⟨#[]⟩ = true ↔ l = [] := by
  rw [seq_iff]
  constructor
  · intro h
    have := congrArg ByteArray.size h
    rw [strOf_size] at this
    exact List.length_eq_zero_iff.1 this
  · intro h; rw [h]; rfl
theorem trim_ok {K : Nat} (hK : 100 ≤ K) {t : List Int} (hb : By t) (hl : t.length ≤ 64) : ∃ u, F.strings_Trim K (strOf t) ⟨#[48]⟩ = some (strOf u) ∧ (u = [] ↔ ∀ x ∈ t, x = 48) := by
  unfold F.strings_Trim
  simp only [bi_eq]
  by_cases z : t = []
  · rw [if_pos (strOf_nil.2 z)]
    exact ⟨t, rfl, by simp [z]⟩
  · rw [if_neg (fun h => z (strOf_nil.1 h)), if_neg (by decide +kernel), if_pos (by decide +kernel), if_pos (by decide +kernel), if_pos (by decide +kernel), if_pos (by decide +kernel)]
    have e : bt ⟨#[48]⟩ 0 = 48 := by decide +kernel
    rw [e]
    unfold F.strings_trimRightByte F.strings_trimLeftByte
    obtain ⟨u, h1, h2, h3, h4, h5⟩ := tr_loop (K := K) K t hb hl (by omega)
    obtain ⟨v, g1, g2, g3⟩ := tl_loop (K := K) K u h2 (by omega) (by omega)
    rw [h1, Option.bind_some, Option.bind_some, if_pos (by decide +kernel), g1, Option.bind_some, Option.bind_some]
    refine ⟨v, rfl, fun hv => ?_, fun h => g3 (h5 h)⟩
    refine Classical.byContradiction fun hn => ?_
    have : ∃ x ∈ t, x ≠ 48 := Classical.byContradiction fun k => hn fun x hx => Classical.byContradiction fun y => k ⟨x, hx, y⟩
    exact g2 (h4.2 this) hv
structure Sgn (sg t : List Int) : Prop where
  or : sg = [45] ∨ (sg = [] ∧ (0 < t.length → nth 0 t 0 ≠ 45))
theorem Sgn.len {sg t : List Int} (h : Sgn sg t) : sg.length ≤ 1 := by rcases h.or with h | h <;> simp [h]
structure Whole (t sg A R : List Int) : Prop where
  eq : t = sg ++ (A ++ R)
  by_ : By t
  len : t.length ≤ 64
  sgn : Sgn sg t
  dig : ∀ x ∈ A, dg x
  stop : ∀ c R', R = c :: R' → ¬ dg c
theorem Whole.at {t sg A R : List Int} (h : Whole t sg A R) (i : Nat) : nth 0 t (sg.length + i) = nth 0 (A ++ R) i := by rw [h.eq, nth_app, if_neg (by omega), Nat.add_sub_cancel_left]
theorem Whole.size {t sg A R : List Int} (h : Whole t sg A R) : t.length = sg.length + A.length + R.length := by rw [h.eq]; simp; omega
theorem Whole.minus {t sg A R : List Int} (h : Whole t sg A R) (K : Nat) : F._digits_reader_is K (strOf t) 0 45 = some (decide (sg = [45]), strOf t, (sg.length : Int)) := by
  have := is_ok K h.by_ h.len (i := 0) (c := 45)
  rw [show ((0 : Nat) : Int) = 0 from rfl] at this
  rw [this]
  rcases h.sgn.or with e | ⟨e, k⟩
  · have hz := h.size
    rw [if_pos ⟨by rw [e] at hz; simp at hz; omega, by rw [h.eq, e]; rfl⟩]
    simp [e]
  · rw [if_neg (fun x => k x.1 x.2)]
    simp [e]
theorem Whole.digits {t sg A R : List Int} (h : Whole t sg A R) {K : Nat} (hK : 100 ≤ K) : F._digits_reader_digits K (strOf t) (sg.length : Int) (t.length : Int) = some (if A = [] then (false, (sg.length : Int), ⟨#[]⟩, ⟨#[]⟩, 0) else (true, 0, strOf A, strOf t, ((sg.length + A.length : Nat) : Int))) := by
  have hz := h.size
  have hl := h.len
  rw [digits_ok hK h.by_ h.len (i := sg.length) (e := sg.length + A.length) (by omega) (by omega) (by omega) (by omega) (fun q q1 q2 => ?_) (fun q => ?_), if_neg (by omega)]
  · by_cases c : A = []
    · rw [if_pos c, if_pos (by rw [c]; rfl)]
    · rw [if_neg c, if_neg (by have := List.length_pos_iff.2 c; omega)]
      congr 4
      rw [h.eq, List.drop_left, Nat.add_sub_cancel_left, List.take_left]
  · have := h.at (q - sg.length)
    rw [show sg.length + (q - sg.length) = q by omega] at this
    rw [this, nth_app, if_pos (by omega)]
    exact h.dig _ (nth_mem (by omega))
  · rw [h.at, nth_app, if_neg (by omega), Nat.sub_self]
    cases hR : R with
    | nil => rw [hR] at hz; simp at hz; omega
    | cons c R' => exact h.stop c R' hR
def Front (A : List Int) : Prop := A ≠ [] ∧ ¬ (1 < A.length ∧ nth 0 A 0 = 48)
theorem read_none {t sg A R : List Int} (h : Whole t sg A R) {K : Nat} (hK : 100 ≤ K) (hA : A = []) : ∃ r, F._digits_reader_read K (strOf t) 0 = some (false, (sg.length : Int), r) := by
  unfold F._digits_reader_read
  rw [h.minus, Option.bind_some]
  simp only [strOf_size]
  rw [h.digits hK, if_pos hA, Option.bind_some]
  exact ⟨_, rfl⟩
theorem read_lead {t sg A R : List Int} (h : Whole t sg A R) {K : Nat} (hK : 100 ≤ K) (h1 : 1 < A.length) (h2 : nth 0 A 0 = 48) : ∃ r, F._digits_reader_read K (strOf t) 0 = some (false, ((sg.length + 1 : Nat) : Int), r) := by
  have hs := h.sgn.len
  have hA : A ≠ [] := fun e => by rw [e] at h1; simp at h1
  unfold F._digits_reader_read
  rw [h.minus, Option.bind_some]
  simp only [strOf_size]
  rw [h.digits hK, if_neg hA, Option.bind_some]
  have e : bt (strOf A) 0 = 48 := by
    have := bt_strOf (l := A) (i := 0) (by omega) (By.dg h.dig)
    rw [h2] at this; exact this
  rw [bi_eq, if_pos rfl]
  simp only [bi_eq, strOf_size, e]
  rw [if_pos (by simp; omega), if_pos (by simp; omega), if_pos (by decide), iw (by omega) (by omega)]
  exact ⟨_, by rw [show (sg.length : Int) + 1 = ((sg.length + 1 : Nat) : Int) by omega]⟩
def tailR (K : Nat) (mn : Bool) (A : ByteArray) (s : ByteArray) (x : Int) : Option (Bool × Int × (Bool × ByteArray × Int × ByteArray × Int)) :=
  ((F._digits_reader_is K s x 46).bind fun r2 => (bi (r2.fst)
    ((F._digits_reader_digits K r2.snd.fst r2.snd.snd 18).bind fun r3 => (bi (r3.fst)
    (bi (Decidable.decide (r3.snd.snd.snd.snd < (↑r3.snd.snd.snd.fst.size : Int)))
    (some ((Bool.false, r3.snd.snd.snd.snd, Bool.false, { data := #[] }, 0, { data := #[] }, 0)))
    (bi (Decidable.decide ((↑(A.size + r3.snd.snd.fst.size) : Int) > 9223372036854775807))
    none
    (bi mn
    ((F.strings_Trim K (A ++ r3.snd.snd.fst) { data := #[48] }).bind fun r4 => (bi (sEq r4 { data := #[] })
    (some ((Bool.false, 0, Bool.false, { data := #[] }, 0, { data := #[] }, 0)))
    (some ((Bool.true, 0, mn, A ++ r3.snd.snd.fst, (↑r3.snd.snd.fst.size : Int), r3.snd.snd.snd.fst,
  r3.snd.snd.snd.snd)))))
    (some ((Bool.true, 0, mn, A ++ r3.snd.snd.fst, (↑r3.snd.snd.fst.size : Int), r3.snd.snd.snd.fst,
  r3.snd.snd.snd.snd))))))
    (some ((Bool.false, r3.snd.fst, Bool.false, { data := #[] }, 0, { data := #[] }, 0)))))
    (bi (Decidable.decide (r2.snd.snd < (↑r2.snd.fst.size : Int)))
    (some ((Bool.false, r2.snd.snd, Bool.false, { data := #[] }, 0, { data := #[] }, 0)))
    (bi (Decidable.decide ((↑(A.size + 0) : Int) > 9223372036854775807))
    none
    (bi mn
    ((F.strings_Trim K (A ++ { data := #[] }) { data := #[48] }).bind fun r5 => (bi (sEq r5 { data := #[] })
    (some ((Bool.false, 0, Bool.false, { data := #[] }, 0, { data := #[] }, 0)))
    (some ((Bool.true, 0, mn, A ++ { data := #[] }, 0, r2.snd.fst, r2.snd.snd)))))
    (some ((Bool.true, 0, mn, A ++ { data := #[] }, 0, r2.snd.fst, r2.snd.snd))))))))
theorem read_front {t sg A R : List Int} (h : Whole t sg A R) {K : Nat} (hK : 100 ≤ K) (hA : Front A) : F._digits_reader_read K (strOf t) 0 = tailR K (decide (sg = [45])) (strOf A) (strOf t) ((sg.length + A.length : Nat) : Int) := by
  unfold F._digits_reader_read
  rw [h.minus, Option.bind_some]
  simp only [strOf_size]
  rw [h.digits hK, if_neg hA.1, Option.bind_some]
  simp only [strOf_size]
  rw [bi_eq, if_pos rfl, bi_eq]
  by_cases c : 1 < A.length
  · rw [if_pos (by simp; omega), bi_eq, if_pos (by simp; omega), bi_eq]
    have e : bt (strOf A) 0 = nth 0 A 0 := bt_strOf (l := A) (i := 0) (by omega) (By.dg h.dig)
    rw [if_neg (by rw [e]; simpa using fun k => hA.2 ⟨c, k⟩)]
    unfold tailR
    simp only [strOf_size]
  · rw [if_neg (by simp; omega)]
    unfold tailR
    simp only [strOf_size]
theorem tail_stop {t sg A R : List Int} (h : Whole t sg A R) {K : Nat} {mn : Bool} {X : ByteArray} {c : Int} {R' : List Int} (hR : R = c :: R') (hc : c ≠ 46) : ∃ r, tailR K mn X (strOf t) ((sg.length + A.length : Nat) : Int) = some (false, ((sg.length + A.length : Nat) : Int), r) := by
  have hz := h.size
  rw [hR] at hz
  simp at hz
  have e : nth 0 t (sg.length + A.length) = c := by rw [h.at, nth_app, if_neg (by omega), Nat.sub_self, hR]; rfl
  unfold tailR
  rw [is_ok K h.by_ h.len, if_neg (fun x => hc (by rw [← e]; exact x.2)), Option.bind_some]
  rw [bi_eq, if_neg (by simp)]
  simp only [strOf_size]
  rw [bi_eq, if_pos (by simp; omega)]
  exact ⟨_, rfl⟩
theorem zero_check {K : Nat} (hK : 100 ≤ K) {sg L : List Int} (hb : By L) (hl : L.length ≤ 64) {β : Type} {a b : Option β} : (bi (decide (sg = [45])) ((F.strings_Trim K (strOf L) ⟨#[48]⟩).bind fun r => bi (sEq r ⟨#[]⟩) a b) b) = (if decide (sg = [45]) = true ∧ (∀ x ∈ L, x = 48) then a else b) := by
  rw [bi_eq]
  by_cases h : sg = [45]
  · obtain ⟨u, h1, h2⟩ := trim_ok hK hb hl
    rw [if_pos (by simpa using h), h1, Option.bind_some, bi_eq]
    by_cases k : ∀ x ∈ L, x = 48
    · rw [if_pos (strOf_nil.2 (h2.2 k)), if_pos ⟨by simpa using h, k⟩]
    · rw [if_neg (fun x => k (h2.1 (strOf_nil.1 x))), if_neg (fun x => k x.2)]
  · rw [if_neg (by simpa using h), if_neg (fun x => h (by simpa using x.1))]
theorem tail_whole {t sg A R : List Int} (h : Whole t sg A R) {K : Nat} (hK : 100 ≤ K) (hR : R = []) : ∃ r s, tailR K (decide (sg = [45])) (strOf A) (strOf t) ((sg.length + A.length : Nat) : Int) = some (if decide (sg = [45]) = true ∧ (∀ x ∈ A, x = 48) then (false, 0, r) else (true, 0, decide (sg = [45]), strOf A, 0, s)) := by
  have hz := h.size
  have hl := h.len
  rw [hR] at hz
  simp at hz
  unfold tailR
  rw [is_ok K h.by_ h.len, if_neg (by omega), Option.bind_some]
  simp only [strOf_size]
  rw [bi_eq, if_neg (by decide), bi_eq, if_neg (by simp; omega), bi_eq, if_neg (by simp; omega)]
  have e : strOf A ++ ⟨#[]⟩ = strOf A := by
    have : (⟨#[]⟩ : ByteArray) = strOf [] := rfl
    rw [this, strOf_app, List.append_nil]
  rw [e, zero_check hK (By.dg h.dig) (by omega)]
  refine ⟨(false, ⟨#[]⟩, 0, ⟨#[]⟩, 0), (strOf t, ((sg.length + A.length : Nat) : Int)), ?_⟩
  split <;> rfl
structure Frac (R B C : List Int) : Prop where
  eq : R = 46 :: (B ++ C)
  dig : ∀ x ∈ B, dg x
  stop : ∀ c C', C = c :: C' → ¬ dg c
theorem frac_pos {t sg A R B C : List Int} (h : Whole t sg A R) (f : Frac R B C) : t.length = sg.length + A.length + 1 + B.length + C.length ∧ nth 0 t (sg.length + A.length) = 46 ∧ (∀ i, nth 0 t (sg.length + A.length + 1 + i) = nth 0 (B ++ C) i) := by
  have hz := h.size
  rw [f.eq] at hz
  simp at hz
  refine ⟨by omega, by rw [h.at, nth_app, if_neg (by omega), Nat.sub_self, f.eq]; rfl, fun i => ?_⟩
  rw [show sg.length + A.length + 1 + i = sg.length + (A.length + (i + 1)) by omega, h.at, nth_app, if_neg (by omega), Nat.add_sub_cancel_left, f.eq]
  rfl
theorem frac_digits {t sg A R B C : List Int} (h : Whole t sg A R) (f : Frac R B C) {K : Nat} (hK : 100 ≤ K) : F._digits_reader_digits K (strOf t) ((sg.length + A.length + 1 : Nat) : Int) 18 = some (if 18 < B.length then (false, ((sg.length + A.length + 1 + 18 : Nat) : Int), ⟨#[]⟩, ⟨#[]⟩, 0) else if B = [] then (false, ((sg.length + A.length + 1 : Nat) : Int), ⟨#[]⟩, ⟨#[]⟩, 0) else (true, 0, strOf B, strOf t, ((sg.length + A.length + 1 + B.length : Nat) : Int))) := by
  obtain ⟨p1, p2, p3⟩ := frac_pos h f
  have hl := h.len
  rw [digits_ok hK h.by_ h.len (i := sg.length + A.length + 1) (e := sg.length + A.length + 1 + B.length) (by omega) (by omega) (by omega) (by omega) (fun q q1 q2 => ?_) (fun q => ?_)]
  · by_cases c : 18 < B.length
    · rw [if_pos c, if_pos (by omega)]
      congr 3
    · rw [if_neg c, if_neg (by omega)]
      by_cases d : B = []
      · rw [if_pos d, if_pos (by rw [d]; rfl)]
      · rw [if_neg d, if_neg (by have := List.length_pos_iff.2 d; omega)]
        have hB : ((t.drop (sg.length + A.length + 1)).take (sg.length + A.length + 1 + B.length - (sg.length + A.length + 1))).length = B.length := by
          rw [List.length_take, List.length_drop]; omega
        have hE : (t.drop (sg.length + A.length + 1)).take (sg.length + A.length + 1 + B.length - (sg.length + A.length + 1)) = B := by
          refine list_ext hB fun i hi => ?_
          rw [hB] at hi
          rw [nth_eq, List.getD_eq_getElem?_getD, List.getElem?_take, if_pos (by omega), List.getElem?_drop, ← List.getD_eq_getElem?_getD, ← nth_eq, p3, nth_app, if_pos (by omega)]
        rw [hE]
  · have := p3 (q - (sg.length + A.length + 1))
    rw [show sg.length + A.length + 1 + (q - (sg.length + A.length + 1)) = q by omega] at this
    rw [this, nth_app, if_pos (by omega)]
    exact f.dig _ (nth_mem (by omega))
  · rw [p3, nth_app, if_neg (by omega), Nat.sub_self]
    cases hC : C with
    | nil => rw [hC] at p1; simp at p1; omega
    | cons c C' => exact f.stop c C' hC
theorem tail_frac {t sg A R B C : List Int} (h : Whole t sg A R) (f : Frac R B C) {K : Nat} (hK : 100 ≤ K) : ∃ r s, tailR K (decide (sg = [45])) (strOf A) (strOf t) ((sg.length + A.length : Nat) : Int) = some (
    if 18 < B.length then (false, ((sg.length + A.length + 1 + 18 : Nat) : Int), r) else if B = [] then (false, ((sg.length + A.length + 1 : Nat) : Int), r) else if C ≠ [] then (false, ((sg.length + A.length + 1 + B.length : Nat) : Int), r)
    else if decide (sg = [45]) = true ∧ (∀ x ∈ A ++ B, x = 48) then (false, 0, r) else (true, 0, decide (sg = [45]), strOf (A ++ B), (B.length : Int), s)) := by
  obtain ⟨p1, p2, p3⟩ := frac_pos h f
  have hl := h.len
  unfold tailR
  rw [is_ok K h.by_ h.len, if_pos ⟨by omega, p2⟩, Option.bind_some]
  simp only
  rw [bi_eq, if_pos rfl, frac_digits h f hK]
  by_cases c : 18 < B.length
  · simp only [if_pos c]
    rw [Option.bind_some, bi_eq, if_neg (by simp)]
    exact ⟨_, (⟨#[]⟩, 0), rfl⟩
  · by_cases d : B = []
    · simp only [if_neg c, if_pos d]
      rw [Option.bind_some, bi_eq, if_neg (by simp)]
      exact ⟨_, (⟨#[]⟩, 0), rfl⟩
    · simp only [if_neg c, if_neg d]
      rw [Option.bind_some, bi_eq, if_pos (by simp)]
      simp only [strOf_size]
      by_cases e : C = []
      · rw [bi_eq, if_neg (by rw [e] at p1; simp at p1; simp; omega), bi_eq, if_neg (by simp; omega), strOf_app, zero_check hK (By.app (By.dg h.dig) (By.dg f.dig)) (by simp; omega)]
        simp only [if_neg (show ¬ (C ≠ []) from fun x => x e)]
        refine ⟨(false, ⟨#[]⟩, 0, ⟨#[]⟩, 0), (strOf t, ((sg.length + A.length + 1 + B.length : Nat) : Int)), ?_⟩
        split <;> rfl
      · rw [bi_eq, if_pos (by have := List.length_pos_iff.2 e; simp; omega)]
        simp only [if_pos (show C ≠ [] from e)]
        exact ⟨_, (⟨#[]⟩, 0), rfl⟩
end Go.Proofs.YtfeifhlnidkbbaaGreatDoor.Wide
