/- Several of my texts in one: plain facts about the printed functions. Conditions: none here. -/
import Derived.Test.YtfeifhlnidkbbaaGreatDoorPTf
import Derived.Test.YtfeifhlnidkbbaaGreatDoorPTc
import Derived.Test.YtfeifhlnidkbbaaGreatDoorPXm
import Derived.Test.YtfeifhlnidkbbaaGreatDoorFG
set_option linter.unusedVariables false
set_option linter.unusedSimpArgs false
namespace Go.Proofs.YtfeifhlnidkbbaaGreatDoor.Wide
open Go Go.RowKit Go.Proofs.YtfeifhlnidkbbaaGreatDoor.Vm
-- too great a number
theorem pl_over {K k : Nat} {L : List Int} {mn : Bool} {sc z0 z1 z2 z3 z4 : Int} (hd : ∀ x ∈ L, dg x) (hl : L.length ≤ 64) {i : Nat} (hi : i < L.length) (hv : dv 0 (L.take i) < 170141183460469231731687303715884105728) (ho : ¬ dv 0 (L.take (i + 1)) < 170141183460469231731687303715884105728) :
    F.digits_Parse_l7 K (k + 1) mn (strOf L) sc (dv 0 (L.take i) / 18446744073709551616) (dv 0 (L.take i) % 18446744073709551616) (L.length : Int) (i : Int) z0 z1 z2 z3 z4 = some (.inr (0, 0, 0, 0, 4)) := by
  have hs := dv_step (v := 0) hi
  have h0 := (dv_nonneg (l := L.take i) (v := 0) (Int.le_refl 0) fun y hy => hd y (List.mem_of_mem_take hy)).2
  have hb := (hd _ (nth_mem hi)).bd
  rw [F.digits_Parse_l7]
  rw [hs] at ho
  generalize dv 0 (L.take i) = V at *
  generalize hx : nth 0 L i = d at *
  simp only [bi_eq, strOf_size]
  rw [if_pos (by simp; omega), mul64_val K ⟨by omega, by omega⟩ (by decide), Option.bind_some, mul64_val K ⟨by omega, by omega⟩ (by decide), Option.bind_some, if_pos (by simp; omega), bt_strOf hi (By.dg hd), hx]
  have ew : IntKind.u64.wrap (IntKind.u8.wrap (d - 48)) = d - 48 := by rw [wu8, wu]; omega
  rw [ew]
  obtain ⟨p, q, e1, hp, hq, _⟩ := add_st (x := V % 18446744073709551616 * 10 % 18446744073709551616) (y := d - 48) (c := 0) ⟨by omega, by omega⟩ ⟨by omega, by omega⟩ (by decide)
  simp only [e1, Option.bind_some]
  obtain ⟨p', q', e2, hp', hq', _⟩ := add_st (x := V / 18446744073709551616 * 10 % 18446744073709551616) (y := V % 18446744073709551616 * 10 / 18446744073709551616) (c := q) ⟨by omega, by omega⟩ ⟨by omega, by omega⟩ (by omega)
  simp only [e2, Option.bind_some]
  by_cases c1 : V / 18446744073709551616 * 10 / 18446744073709551616 > 0
  · rw [if_pos (by simpa using c1)]
  · rw [if_neg (by simpa using c1)]
    by_cases c2 : q' > 0
    · rw [if_pos (by simpa using c2)]
    · rw [if_neg (by simpa using c2)]
      have k3 : p'.fdiv 9223372036854775808 > 0 := by rw [fd _ _ (by decide)]; omega
      rw [if_pos (by simpa using k3)]
theorem pl_long {K : Nat} {L : List Int} {mn : Bool} {sc z0 z1 z2 z3 z4 : Int} (hd : ∀ x ∈ L, dg x) (hl : L.length ≤ 64) (hv : ¬ dv 0 L < 170141183460469231731687303715884105728) : ∀ (k i : Nat), i ≤ L.length → L.length - i < k → dv 0 (L.take i) < 170141183460469231731687303715884105728 →
    F.digits_Parse_l7 K k mn (strOf L) sc (dv 0 (L.take i) / 18446744073709551616) (dv 0 (L.take i) % 18446744073709551616) (L.length : Int) (i : Int) z0 z1 z2 z3 z4 = some (.inr (0, 0, 0, 0, 4))
  | 0, i, _, h, _ => by omega
  | k + 1, i, hi, hk, hb => by
    by_cases c : i < L.length
    · by_cases o : dv 0 (L.take (i + 1)) < 170141183460469231731687303715884105728
      · -- one step, by the text cut here
        have hd' : ∀ x ∈ L.take (i + 1), dg x := fun x hx => hd x (List.mem_of_mem_take hx)
        have hs := dv_step (v := 0) c
        have h0 := (dv_nonneg (l := L.take i) (v := 0) (Int.le_refl 0) fun y hy => hd y (List.mem_of_mem_take hy)).2
        have hb2 := (hd _ (nth_mem c)).bd
        have ih := pl_long (K := K) (mn := mn) (sc := sc) (z0 := z0) (z1 := z1) (z2 := z2) (z3 := z3) (z4 := z4) hd hl hv k (i + 1) (by omega) (by omega) o
        rw [F.digits_Parse_l7]
        rw [hs] at ih o
        generalize dv 0 (L.take i) = V at *
        generalize hx : nth 0 L i = d at *
        simp only [bi_eq, strOf_size]
        rw [if_pos (by simp; omega), mul64_val K ⟨by omega, by omega⟩ (by decide), Option.bind_some, mul64_val K ⟨by omega, by omega⟩ (by decide), Option.bind_some, if_pos (by simp; omega), bt_strOf c (By.dg hd), hx]
        have ew : IntKind.u64.wrap (IntKind.u8.wrap (d - 48)) = d - 48 := by rw [wu8, wu]; omega
        rw [ew]
        obtain ⟨p, q, e1, hp, hq, _⟩ := add_st (x := V % 18446744073709551616 * 10 % 18446744073709551616) (y := d - 48) (c := 0) ⟨by omega, by omega⟩ ⟨by omega, by omega⟩ (by decide)
        simp only [e1, Option.bind_some]
        obtain ⟨p', q', e2, hp', hq', _⟩ := add_st (x := V / 18446744073709551616 * 10 % 18446744073709551616) (y := V % 18446744073709551616 * 10 / 18446744073709551616) (c := q) ⟨by omega, by omega⟩ ⟨by omega, by omega⟩ (by omega)
        simp only [e2, Option.bind_some]
        have k1 : p = (10 * V + (d - 48)) % 18446744073709551616 := by omega
        have k2 : p' = (10 * V + (d - 48)) / 18446744073709551616 := by omega
        have k3 : p'.fdiv 9223372036854775808 = 0 := by rw [fd _ _ (by decide)]; omega
        rw [if_neg (by simp; omega), if_neg (by simp; omega), k3, if_neg (by decide), k1, k2, iw (by omega) (by omega), show (i : Int) + 1 = ((i + 1 : Nat) : Int) by omega]
        exact ih
      · exact pl_over hd hl c hb o
    · have : i = L.length := by omega
      subst this
      rw [List.take_length] at hb
      exact absurd hb hv
theorem parse_over {K : Nat} (hK : 400 ≤ K) {t sg L : List Int} {sc : Int} {s : ByteArray × Int} (hl : t.length ≤ 64) (hd : ∀ x ∈ L, dg x) (hL : L.length ≤ 64) (hv : ¬ dv 0 L < 170141183460469231731687303715884105728)
    (hr : F._digits_reader_read K (strOf t) 0 = some (true, 0, decide (sg = [45]), strOf L, sc, s)) :
    F.digits_Parse K (strOf t) = some (0, 0, 0, 0, 4) := by
  unfold F.digits_Parse
  rw [bi_eq, if_neg (by rw [strOf_size]; simp; omega), hr, Option.bind_some, bi_eq, if_pos rfl]
  have w := pl_long (K := K) (mn := decide (sg = [45])) (sc := sc) (z0 := 0) (z1 := 0) (z2 := 0) (z3 := 0) (z4 := 0) hd hL hv K 0 (by omega) (by omega) (by simp [dv])
  simp only [List.take_zero, dv, strOf_size] at w ⊢
  have w : F.digits_Parse_l7 K K (decide (sg = [45])) (strOf L) sc 0 0 (L.length : Int) 0 0 0 0 0 0 = _ := w
  rw [w]
  rfl
structure Shp (t sg W G B : List Int) : Prop where
  eq : t = sg ++ (W ++ G)
  sgn : sg = [45] ∨ sg = []
  dig : ∀ x ∈ W, dg x
  front : Front W
  frac : (G = [] ∧ B = []) ∨ (G = 46 :: B ∧ B ≠ [] ∧ B.length ≤ 18)
  digB : ∀ x ∈ B, dg x
  nz : ¬ (sg = [45] ∧ ∀ x ∈ W ++ B, x = 48)
theorem Shp.doc {t sg W G B : List Int} (h : Shp t sg W G B) (hl : t.length ≤ 60) (hv : dv 0 (W ++ B) < 170141183460469231731687303715884105728) : Doc t sg W G B := ⟨h.eq, h.sgn, h.dig, h.front, h.frac, h.digB, hl, hv⟩
theorem Shp.whole {t sg W G B : List Int} (h : Shp t sg W G B) (hb : By t) (hl : t.length ≤ 64) : Whole t sg W G := by
  refine ⟨h.eq, hb, hl, ⟨?_⟩, h.dig, fun c R' e => ?_⟩
  · rcases h.sgn with e | e
    · exact .inl e
    · refine .inr ⟨e, fun _ hn => ?_⟩
      have h0 : 0 < W.length := List.length_pos_iff.2 h.front.1
      rw [h.eq, e, List.nil_append, nth_app, if_pos h0] at hn
      have := (h.dig _ (nth_mem h0)).bd
      omega
  · rcases h.frac with ⟨e2, _⟩ | ⟨e2, _⟩
    · rw [e2] at e; cases e
    · rw [e2] at e; injection e with e3; rw [← e3]; exact nodg46
theorem Shp.read {t sg W G B : List Int} (h : Shp t sg W G B) (hb : By t) (hl : t.length ≤ 64) {K : Nat} (hK : 100 ≤ K) : ∃ s, F._digits_reader_read K (strOf t) 0 = some (true, 0, decide (sg = [45]), strOf (W ++ B), (B.length : Int), s) := by
  have w := h.whole hb hl
  rcases h.frac with ⟨e1, e2⟩ | ⟨e1, e2, e3⟩
  · subst e1 e2
    obtain ⟨r, s, e⟩ := tail_whole w hK rfl
    have nz := h.nz
    rw [List.append_nil] at nz ⊢
    refine ⟨s, ?_⟩
    rw [read_front w hK h.front, e, if_neg (fun k => nz ⟨by simpa using k.1, k.2⟩)]
    rfl
  · have fr : Frac G B [] := ⟨by rw [e1, List.append_nil], h.digB, fun c C' e => by cases e⟩
    obtain ⟨r, s, e⟩ := tail_frac w fr hK
    refine ⟨s, ?_⟩
    rw [read_front w hK h.front, e, if_neg (by omega), if_neg e2, if_neg (by simp), if_neg (fun k => h.nz ⟨by simpa using k.1, k.2⟩)]
def rdA (sg W B : List Int) : Int × Int × Int × Int × Int :=
  if dv 0 (W ++ B) < 170141183460469231731687303715884105728 then (sv sg (dv 0 (W ++ B)) / 18446744073709551616, sv sg (dv 0 (W ++ B)) % 18446744073709551616, (B.length : Int), 0, 0) else (0, 0, 0, 0, 4)
theorem Shp.size {t sg W G B : List Int} (h : Shp t sg W G B) : t.length = sg.length + W.length + (if G = [] then 0 else 1) + B.length ∧ B.length ≤ 18 := by
  have hz := congrArg List.length h.eq
  simp only [List.length_append] at hz
  rcases h.frac with ⟨e1, e2⟩ | ⟨e1, e2, e3⟩
  · subst e1 e2; simp at hz ⊢; omega
  · rw [if_neg (by rw [e1]; simp)]; rw [e1] at hz; simp at hz; omega
theorem Shp.digs {t sg W G B : List Int} (h : Shp t sg W G B) : ∀ x ∈ W ++ B, dg x := fun x hx => (List.mem_append.1 hx).elim (h.dig x) (h.digB x)
theorem Shp.parse {t sg W G B : List Int} (h : Shp t sg W G B) (hb : By t) (hl : t.length ≤ 64) {K : Nat} (hK : 400 ≤ K) : F.digits_Parse K (strOf t) = some (rdA sg W B) := by
  obtain ⟨s, e⟩ := h.read hb hl (K := K) (by omega)
  have hz := h.size
  unfold rdA
  by_cases v : dv 0 (W ++ B) < 170141183460469231731687303715884105728
  · rw [if_pos v]
    exact parse_some hK hl h.digs (by simp; omega) (by omega) (by omega) v e
  · rw [if_neg v]
    exact parse_over hK hl h.digs (by simp; omega) v e
-- the reference: the place of a fault
theorem figure_ok (K : Nat) (c : Int) : F.ref02_figure K c = some (decide (dg c)) := by
  unfold F.ref02_figure dg
  rw [bi_eq]
  by_cases h : c ≥ 48
  · rw [if_pos (by simpa using h)]
    congr 1
    exact decide_eq_decide.2 ⟨fun k => ⟨h, k⟩, fun k => k.2⟩
  · rw [if_neg (by simpa using h)]
    congr 1
    exact (decide_eq_false fun k => h k.1).symm
def al (t : List Int) (q e : Nat) : Bool := ((t.drop q).take (e - q)).all (· == 48)
theorem al_end (t : List Int) (e : Nat) : al t e e = true := by unfold al; rw [Nat.sub_self]; rfl
theorem al_step {t : List Int} {q e : Nat} (h : q < e) (he : e ≤ t.length) : al t q e = (nth 0 t q == 48 && al t (q + 1) e) := by
  unfold al
  rw [List.drop_eq_getElem_cons (show q < t.length by omega), show e - q = (e - (q + 1)) + 1 by omega, List.take_succ_cons, List.all_cons, nth_eq, List.getD_eq_getElem?_getD, List.getElem?_eq_getElem (show q < t.length by omega)]
  rfl
theorem f7_loop {K : Nat} {t : List Int} (hb : By t) (hl : t.length ≤ 64) {i e : Nat} {m : Bool} (he : e ≤ t.length) (hd : ∀ q, i ≤ q → q < e → dg (nth 0 t q)) (hn : e < t.length → ¬ dg (nth 0 t e)) (hno : ¬ (i + 1 < e ∧ nth 0 t i = 48)) : ∀ (k q : Nat) (f : Bool), i ≤ q → q ≤ e → e - q < k →
    F.ref02_Fault_l7 K k (strOf t) (q : Int) m (i : Int) f = some (.inl (strOf t, (e : Int), m, (i : Int), f && al t q e))
  | 0, q, f, _, _, h => by omega
  | k + 1, q, f, h1, h2, h3 => by
    rw [F.ref02_Fault_l7]
    simp only [bi_eq, strOf_size]
    by_cases c : q < e
    · have ih := fun f => f7_loop (K := K) hb hl (m := m) he hd hn hno k (q + 1) f (by omega) (by omega) (by omega)
      have go : (if f = true then (if (decide (0 ≤ (q : Int)) && decide ((q : Int) < (t.length : Int))) = true then F.ref02_Fault_l7 K k (strOf t) (IntKind.i64.wrap ((q : Int) + 1)) m (i : Int) (bt (strOf t) (q : Int) == 48) else none) else F.ref02_Fault_l7 K k (strOf t) (IntKind.i64.wrap ((q : Int) + 1)) m (i : Int) false) = some (.inl (strOf t, (e : Int), m, (i : Int), f && al t q e)) := by
        rw [iw (x := (q : Int) + 1) (by omega) (by omega), show (q : Int) + 1 = ((q + 1 : Nat) : Int) by omega, al_step c he]
        cases f
        · rw [if_neg (by decide), ih]; simp
        · rw [if_pos rfl, if_pos (by simp; omega), ih, bt_strOf (by omega) hb]; simp
      rw [if_pos (by simp; omega), if_pos (by simp; omega), bt_strOf (i := q) (by omega) hb, figure_ok, Option.bind_some, if_pos (by simpa using hd q h1 c), iw (x := (i : Int) + 1) (by omega) (by omega)]
      rw [bt_strOf (i := q) (by omega) hb] at go
      by_cases c1 : q = i + 1
      · rw [if_pos (by simp; omega), if_pos (by simp; omega), bt_strOf (i := i) (by omega) hb, if_neg (by simpa using fun x => hno ⟨by omega, x⟩)]
        exact go
      · rw [if_neg (by simp; omega)]
        exact go
    · have : q = e := by omega
      subst this
      rw [al_end, Bool.and_true]
      by_cases z : q < t.length
      · rw [if_pos (by simp; omega), if_pos (by simp; omega), bt_strOf (by omega) hb, figure_ok, Option.bind_some, if_neg (by simpa using hn z)]
      · rw [if_neg (by simp; omega)]
theorem f7_lead {K k : Nat} {t : List Int} (hb : By t) (hl : t.length ≤ 64) {i : Nat} {m f : Bool} (hi : i + 1 < t.length) (h0 : nth 0 t i = 48) (h1 : dg (nth 0 t (i + 1))) :
    F.ref02_Fault_l7 K (k + 2) (strOf t) (i : Int) m (i : Int) f = some (.inr ((i : Int) + 1)) := by
  have d0 : dg (nth 0 t i) := by rw [h0]; decide
  have second : ∀ f, F.ref02_Fault_l7 K (k + 1) (strOf t) (((i + 1 : Nat)) : Int) m (i : Int) f = some (.inr ((i : Int) + 1)) := fun f => by
    rw [F.ref02_Fault_l7]
    simp only [bi_eq, strOf_size]
    rw [if_pos (by simp; omega), if_pos (by simp; omega), bt_strOf (i := i + 1) (by omega) hb, figure_ok, Option.bind_some, if_pos (by simpa using h1), iw (x := (i : Int) + 1) (by omega) (by omega), if_pos (by simp), if_pos (by simp; omega), bt_strOf (i := i) (by omega) hb, h0, if_pos (by decide)]
    rw [show ((i + 1 : Nat) : Int) = (i : Int) + 1 by omega]
  rw [F.ref02_Fault_l7]
  simp only [bi_eq, strOf_size]
  rw [if_pos (by simp; omega), if_pos (by simp; omega), bt_strOf (i := i) (by omega) hb, figure_ok, Option.bind_some, if_pos (by simpa using d0), iw (x := (i : Int) + 1) (by omega) (by omega), if_neg (by simp; omega), show (i : Int) + 1 = ((i + 1 : Nat) : Int) by omega]
  cases f
  · rw [if_neg (by decide), second]; rw [show ((i + 1 : Nat) : Int) = (i : Int) + 1 by omega]
  · rw [if_pos rfl, if_pos (by simp; omega), second]; rw [show ((i + 1 : Nat) : Int) = (i : Int) + 1 by omega]
theorem f17_loop {K : Nat} {t : List Int} (hb : By t) (hl : t.length ≤ 64) {i e : Nat} {m : Bool} (he : e ≤ t.length) (hd : ∀ q, i ≤ q → q < e → dg (nth 0 t q)) (hn : e < t.length → ¬ dg (nth 0 t e)) : ∀ (k q : Nat) (f : Bool), i ≤ q → q ≤ e → q ≤ i + 18 → e - q < k →
    F.ref02_Fault_l17 K k (strOf t) (q : Int) m (i : Int) f = some (if i + 18 < e then .inr ((i : Int) + 18) else .inl (strOf t, (e : Int), m, (i : Int), f && al t q e))
  | 0, q, f, _, _, _, h => by omega
  | k + 1, q, f, h1, h2, h4, h3 => by
    rw [F.ref02_Fault_l17]
    simp only [bi_eq, strOf_size]
    by_cases c : q < e
    · rw [if_pos (by simp; omega), if_pos (by simp; omega), bt_strOf (i := q) (by omega) hb, figure_ok, Option.bind_some, if_pos (by simpa using hd q h1 c), iw (x := (i : Int) + 18) (by omega) (by omega)]
      by_cases c1 : q = i + 18
      · rw [if_pos (by simp; omega), if_pos (by omega)]
        congr 2
        omega
      · have ih := fun f => f17_loop (K := K) hb hl (m := m) he hd hn k (q + 1) f (by omega) (by omega) (by omega) (by omega)
        rw [if_neg (by simp; omega), iw (x := (q : Int) + 1) (by omega) (by omega), show (q : Int) + 1 = ((q + 1 : Nat) : Int) by omega, al_step c he]
        cases f
        · rw [if_neg (by decide), ih]; simp
        · rw [if_pos rfl, if_pos (by simp; omega), ih]; simp
    · have : q = e := by omega
      subst this
      rw [al_end, Bool.and_true, if_neg (show ¬ i + 18 < q by omega)]
      by_cases z : q < t.length
      · rw [if_pos (by simp; omega), if_pos (by simp; omega), bt_strOf (by omega) hb, figure_ok, Option.bind_some, if_neg (by simpa using hn z)]
      · rw [if_neg (by simp; omega)]
end Go.Proofs.YtfeifhlnidkbbaaGreatDoor.Wide

namespace Go.Proofs.YtfeifhlnidkbbaaGreatDoor.Wide
open Go Go.RowKit Go.Proofs.YtfeifhlnidkbbaaGreatDoor.Vm
def fend (r : ByteArray × Int × Bool × Int × Bool) : Option Int :=
  bi (Decidable.decide (r.snd.fst < (r.fst.size : Int))) (some r.snd.fst) (bi r.snd.snd.fst (bi r.snd.snd.snd.snd (some 0) (some (-1))) (some (-1)))
def fbody (K : Nat) (r : ByteArray × Int × Bool × Int × Bool) : Option Int :=
  bi (r.snd.fst == r.snd.snd.snd.fst) (some r.snd.fst)
    (bi (Decidable.decide (r.snd.fst < (r.fst.size : Int)))
      (bi (Decidable.decide (0 ≤ r.snd.fst) && Decidable.decide (r.snd.fst < (r.fst.size : Int)))
        (bi (bt r.fst r.snd.fst == 46)
          (casO (F.ref02_Fault_l17 K K r.fst (IntKind.i64.wrap (r.snd.fst + 1)) r.snd.snd.fst (IntKind.i64.wrap (r.snd.fst + 1)) r.snd.snd.snd.snd) (fun r1 => bi (r1.snd.fst == r1.snd.snd.snd.fst) (some r1.snd.fst) (fend r1)) (fun r2 => some r2))
          (fend r)) none)
      (fend r))
theorem fault_eq (K : Nat) (s0 : ByteArray) : F.ref02_Fault K s0 = bi (Decidable.decide ((s0.size : Int) > 0)) (bi (true && Decidable.decide (0 < (s0.size : Int))) (bi (bt s0 0 == 45) (casO (F.ref02_Fault_l7 K K s0 1 (bt s0 0 == 45) 1 true) (fbody K) (fun r => some r)) (casO (F.ref02_Fault_l7 K K s0 0 (bt s0 0 == 45) 0 true) (fbody K) (fun r => some r))) none) (casO (F.ref02_Fault_l7 K K s0 0 false 0 true) (fbody K) (fun r => some r)) := rfl
theorem fault_whole {t sg A R : List Int} (h : Whole t sg A R) (K : Nat) : F.ref02_Fault K (strOf t) = casO (F.ref02_Fault_l7 K K (strOf t) (sg.length : Int) (decide (sg = [45])) (sg.length : Int) true) (fbody K) (fun r => some r) := by
  rw [fault_eq]
  simp only [bi_eq, strOf_size]
  have hb0 := fun h0 : 0 < t.length => bt_strOf (l := t) (i := 0) h0 h.by_
  rw [show ((0 : Nat) : Int) = 0 from rfl] at hb0
  rcases h.sgn.or with e | ⟨e, k⟩
  · have h0 : 0 < t.length := by rw [h.eq, e]; simp
    have e0 : nth 0 t 0 = 45 := by rw [h.eq, e]; rfl
    rw [if_pos (by simp; omega), if_pos (by simp; omega), hb0 h0, e0, if_pos (by decide), e]
    rfl
  · rw [e]
    by_cases h0 : 0 < t.length
    · have hne := k h0
      rw [if_pos (by simp; omega), if_pos (by simp; omega), hb0 h0, if_neg (by simpa using hne)]
      have : (nth 0 t 0 == 45) = decide (([] : List Int) = [45]) := by simp [hne]
      rw [this]
      rfl
    · rw [if_neg (by simpa using h0)]
      rfl
theorem Whole.digq {t sg A R : List Int} (h : Whole t sg A R) : (∀ q, sg.length ≤ q → q < sg.length + A.length → dg (nth 0 t q)) ∧ (sg.length + A.length < t.length → ¬ dg (nth 0 t (sg.length + A.length))) := by
  have hz := h.size
  constructor
  · intro q q1 q2
    have := h.at (q - sg.length)
    rw [show sg.length + (q - sg.length) = q by omega] at this
    rw [this, nth_app, if_pos (by omega)]
    exact h.dig _ (nth_mem (by omega))
  · intro q
    rw [h.at, nth_app, if_neg (by omega), Nat.sub_self]
    cases hR : R with
    | nil => rw [hR] at hz; simp at hz; omega
    | cons c R' => exact h.stop c R' hR
theorem Whole.al {t sg A R : List Int} (h : Whole t sg A R) : al t sg.length (sg.length + A.length) = A.all (· == 48) := by
  unfold Wide.al
  rw [h.eq, List.drop_left, Nat.add_sub_cancel_left, List.take_left]
theorem fault_empty {t sg A R : List Int} (h : Whole t sg A R) {K : Nat} (hK : 100 ≤ K) (hA : A = []) : F.ref02_Fault K (strOf t) = some (sg.length : Int) := by
  have hz := h.size
  have hl := h.len
  obtain ⟨d1, d2⟩ := h.digq
  rw [fault_whole h]
  have hA0 : A.length = 0 := by rw [hA]; rfl
  have := f7_loop (K := K) h.by_ hl (i := sg.length) (e := sg.length + A.length) (m := decide (sg = [45])) (by omega) d1 d2 (by omega) K sg.length true (by omega) (by omega) (by omega)
  rw [this, hA0]
  simp [casO, fbody, bi_eq]
theorem fault_lead {t sg A R : List Int} (h : Whole t sg A R) {K : Nat} (hK : 100 ≤ K) (h1 : 1 < A.length) (h2 : nth 0 A 0 = 48) : ∃ r, F.ref02_Fault K (strOf t) = some r ∧ 0 ≤ r := by
  have hz := h.size
  have hl := h.len
  obtain ⟨d1, d2⟩ := h.digq
  rw [fault_whole h]
  obtain ⟨k, rfl⟩ : ∃ k, K = k + 2 := ⟨K - 2, by omega⟩
  have e0 : nth 0 t sg.length = 48 := by
    have := h.at 0
    rw [Nat.add_zero] at this
    rw [this, nth_app, if_pos (by omega), h2]
  rw [f7_lead (K := k + 2) (k := k) h.by_ hl (by omega) e0 (d1 _ (by omega) (by omega))]
  exact ⟨_, rfl, by omega⟩
theorem fault_front {t sg A R : List Int} (h : Whole t sg A R) {K : Nat} (hK : 100 ≤ K) (hA : Front A) : F.ref02_Fault K (strOf t) = fbody K (strOf t, ((sg.length + A.length : Nat) : Int), decide (sg = [45]), (sg.length : Int), A.all (· == 48)) := by
  have hz := h.size
  have hl := h.len
  obtain ⟨d1, d2⟩ := h.digq
  have h0 : 0 < A.length := List.length_pos_iff.2 hA.1
  have e0 : nth 0 t sg.length = nth 0 A 0 := by
    have := h.at 0
    rw [Nat.add_zero] at this
    rw [this, nth_app, if_pos h0]
  rw [fault_whole h, f7_loop (K := K) h.by_ hl (i := sg.length) (e := sg.length + A.length) (m := decide (sg = [45])) (by omega) d1 d2 (fun k => hA.2 ⟨by omega, by rw [← e0]; exact k.2⟩) K sg.length true (by omega) (by omega) (by omega), h.al]
  rfl
theorem fend_full {t : List Int} {m f : Bool} {x : Int} : fend (strOf t, (t.length : Int), m, x, f) = some (if m = true ∧ f = true then 0 else -1) := by
  unfold fend
  simp only [bi_eq, strOf_size]
  rw [if_neg (by simp)]
  cases m <;> cases f <;> rfl
theorem fend_part {t : List Int} {m f : Bool} {x : Int} {e : Nat} (h : e < t.length) : fend (strOf t, (e : Int), m, x, f) = some (e : Int) := by
  unfold fend
  simp only [bi_eq, strOf_size]
  rw [if_pos (by simp; omega)]
theorem fault_stop {t sg A R : List Int} (h : Whole t sg A R) {K : Nat} (hK : 100 ≤ K) (hA : Front A) {c : Int} {R' : List Int} (hR : R = c :: R') (hc : c ≠ 46) : ∃ r, F.ref02_Fault K (strOf t) = some r ∧ 0 ≤ r := by
  have hz := h.size
  have h0 : 0 < A.length := List.length_pos_iff.2 hA.1
  have hlt : sg.length + A.length < t.length := by rw [hR] at hz; simp at hz; omega
  have e : nth 0 t (sg.length + A.length) = c := by rw [h.at, nth_app, if_neg (by omega), Nat.sub_self, hR]; rfl
  rw [fault_front h hK hA]
  unfold fbody
  simp only [bi_eq, strOf_size]
  rw [if_neg (by simp; omega), if_pos (by simp; omega), if_pos (by simp; omega), bt_strOf hlt h.by_, e, if_neg (by simpa using hc), fend_part hlt]
  exact ⟨_, rfl, by omega⟩
theorem fault_whole_end {t sg A R : List Int} (h : Whole t sg A R) {K : Nat} (hK : 100 ≤ K) (hA : Front A) (hR : R = []) : F.ref02_Fault K (strOf t) = some (if decide (sg = [45]) = true ∧ A.all (· == 48) = true then 0 else -1) := by
  have hz := h.size
  have h0 : 0 < A.length := List.length_pos_iff.2 hA.1
  rw [hR] at hz
  simp at hz
  rw [fault_front h hK hA]
  unfold fbody
  simp only [bi_eq, strOf_size]
  rw [if_neg (by simp; omega), if_neg (by simp; omega), show ((sg.length + A.length : Nat) : Int) = (t.length : Int) by omega, fend_full]
theorem fault_frac {t sg A R B C : List Int} (h : Whole t sg A R) (f : Frac R B C) {K : Nat} (hK : 100 ≤ K) (hA : Front A) : ∃ r, F.ref02_Fault K (strOf t) = some r ∧
    (if 18 < B.length then 0 ≤ r else if B = [] then 0 ≤ r else if C ≠ [] then 0 ≤ r else r = if decide (sg = [45]) = true ∧ (A ++ B).all (· == 48) = true then 0 else -1) := by
  obtain ⟨p1, p2, p3⟩ := frac_pos h f
  have hl := h.len
  have h0 : 0 < A.length := List.length_pos_iff.2 hA.1
  have hlt : sg.length + A.length < t.length := by omega
  have g1 : ∀ q, sg.length + A.length + 1 ≤ q → q < sg.length + A.length + 1 + B.length → dg (nth 0 t q) := fun q q1 q2 => by
    have := p3 (q - (sg.length + A.length + 1))
    rw [show sg.length + A.length + 1 + (q - (sg.length + A.length + 1)) = q by omega] at this
    rw [this, nth_app, if_pos (by omega)]
    exact f.dig _ (nth_mem (by omega))
  have g2 : sg.length + A.length + 1 + B.length < t.length → ¬ dg (nth 0 t (sg.length + A.length + 1 + B.length)) := fun q => by
    rw [p3, nth_app, if_neg (by omega), Nat.sub_self]
    cases hC : C with
    | nil => rw [hC] at p1; simp at p1; omega
    | cons c C' => exact f.stop c C' hC
  have ha : al t (sg.length + A.length + 1) (sg.length + A.length + 1 + B.length) = B.all (· == 48) := by
    unfold al
    congr 1
    have hB : ((t.drop (sg.length + A.length + 1)).take (sg.length + A.length + 1 + B.length - (sg.length + A.length + 1))).length = B.length := by
      rw [List.length_take, List.length_drop]; omega
    refine list_ext hB fun i hi => ?_
    rw [hB] at hi
    rw [nth_eq, List.getD_eq_getElem?_getD, List.getElem?_take, if_pos (by omega), List.getElem?_drop, ← List.getD_eq_getElem?_getD, ← nth_eq, p3, nth_app, if_pos (by omega)]
  have key := f17_loop (K := K) h.by_ hl (i := sg.length + A.length + 1) (e := sg.length + A.length + 1 + B.length) (m := decide (sg = [45])) (by omega) g1 g2 K (sg.length + A.length + 1) (A.all (· == 48)) (by omega) (by omega) (by omega) (by omega)
  rw [fault_front h hK hA]
  unfold fbody
  simp only [bi_eq, strOf_size]
  rw [if_neg (by simp; omega), if_pos (by simp; omega), if_pos (by simp; omega), bt_strOf hlt h.by_, p2, if_pos (by decide), iw (by omega) (by omega), show ((sg.length + A.length : Nat) : Int) + 1 = ((sg.length + A.length + 1 : Nat) : Int) by omega, key]
  by_cases c1 : 18 < B.length
  · rw [if_pos (by omega)]
    exact ⟨_, rfl, by rw [if_pos c1]; omega⟩
  rw [if_neg (by omega)]
  simp only [casO, Option.bind_some, if_neg c1]
  by_cases c2 : B = []
  · have hB0 : B.length = 0 := by rw [c2]; rfl
    rw [if_pos (by simp; omega)]
    exact ⟨_, rfl, by rw [if_pos c2]; omega⟩
  have hB0 : 0 < B.length := List.length_pos_iff.2 c2
  rw [if_neg (by simp; omega)]
  simp only [if_neg c2]
  by_cases c3 : C ≠ []
  · have hC0 : 0 < C.length := List.length_pos_iff.2 c3
    rw [fend_part (by omega)]
    exact ⟨_, rfl, by rw [if_pos c3]; omega⟩
  · have hC0 : C.length = 0 := by
      have : C = [] := Classical.byContradiction c3
      rw [this]; rfl
    rw [show ((sg.length + A.length + 1 + B.length : Nat) : Int) = (t.length : Int) by omega, fend_full]
    refine ⟨_, rfl, ?_⟩
    rw [if_neg c3, ha, List.all_append]
end Go.Proofs.YtfeifhlnidkbbaaGreatDoor.Wide

namespace Go.Proofs.YtfeifhlnidkbbaaGreatDoor.Wide
open Go Go.RowKit Go.Proofs.YtfeifhlnidkbbaaGreatDoor.Vm
theorem dv_bound : ∀ (L : List Int) (v : Int) (n : Nat), 0 ≤ v → v < 10 ^ n → (∀ x ∈ L, dg x) → dv v L < 10 ^ (n + L.length)
  | [], v, n, h0, h, _ => by simpa [dv] using h
  | c :: L, v, n, h0, h, hd => by
    have b := (hd c (by simp)).bd
    have := dv_bound L (10 * v + (c - 48)) (n + 1) (by omega) (by rw [Int.pow_succ]; omega) fun x hx => hd x (by simp [hx])
    rw [dv]
    rw [show n + (c :: L).length = n + 1 + L.length by simp; omega]
    exact this
theorem l9_digits {K : Nat} (hK : 40000 ≤ K) {t : List Int} (hb : By t) (hl : t.length ≤ 64) {z0 z1 z2 : Int} {mn pt : Bool} : ∀ (L : List Int) (k q n : Nat) (sc v : Int), (∀ x ∈ L, dg x) → q + L.length ≤ t.length → (∀ i, i < L.length → nth 0 t (q + i) = nth 0 L i) → 0 ≤ v → v < 10 ^ n → n + L.length ≤ 64 → 0 ≤ sc → sc + L.length ≤ 1000 →
    F.ref02_DocParse_l9 K (k + L.length) (strOf t) sc pt (q : Int) z0 z1 z2 mn (rl v) = F.ref02_DocParse_l9 K k (strOf t) (sc + if pt = true then (L.length : Int) else 0) pt ((q + L.length : Nat) : Int) z0 z1 z2 mn (rl (dv v L))
  | [], k, q, n, sc, v, _, _, _, _, _, _, _, _ => by
    simp [dv]
  | c :: L, k, q, n, sc, v, hd, hq, hg, h0, hv, hn, s0, s1 => by
    have b := (hd c (by simp)).bd
    have hc := hg 0 (by simp)
    rw [Nat.add_zero] at hc
    have hc : nth 0 t q = c := hc
    simp only [List.length_cons] at hq hn s1
    have big : ∀ m : Nat, m ≤ 65 → (10 : Int) ^ m < TOP := fun m hm => Int.lt_of_le_of_lt (p10_mono hm) (by unfold TOP; decide +kernel)
    have v1 : v < TOP := Int.lt_trans hv (big n (by omega))
    have v2 : v * 10 < 10 ^ (n + 1) := by rw [Int.pow_succ]; omega
    have w1 : F.ref01_Word K 10 = some (rl 10) := word_ok (by omega) ⟨by decide, by decide⟩
    have tl : (rl 10).length ≤ 12 := len_top (by unfold TOP; decide +kernel)
    have w2 : F.ref01_Times K (rl v) (rl 10) = some (rl (v * 10)) := times_ok (by omega) h0 (by decide) (by have := len_top v1; omega) (by omega)
    have w3 : F.ref01_Word K (c - 48) = some (rl (c - 48)) := word_ok (by omega) ⟨by omega, by omega⟩
    have w4 : F.ref01_Plus K (rl (v * 10)) (rl (c - 48)) = some (rl (v * 10 + (c - 48))) := plus_ok (by omega) (by omega) (by omega) (by have := len_top (Int.lt_trans v2 (big (n + 1) (by omega))); omega) (by have := len_top (a := c - 48) (by unfold TOP; omega); omega)
    have ew : IntKind.u64.wrap (IntKind.u8.wrap (c - 48)) = c - 48 := by rw [wu8, wu]; omega
    have ih := fun sc hs0 hs1 => l9_digits hK hb hl (z0 := z0) (z1 := z1) (z2 := z2) (mn := mn) (pt := pt) L k (q + 1) (n + 1) sc (v * 10 + (c - 48)) (fun x hx => hd x (by simp [hx])) (by omega) (fun i hi => by
      have := hg (i + 1) (by simp; omega)
      rw [show q + (i + 1) = q + 1 + i by omega] at this
      exact this) (by omega) (by rw [Int.pow_succ]; omega) (by omega) hs0 hs1
    rw [show k + (c :: L).length = (k + L.length) + 1 by simp; omega, F.ref02_DocParse_l9]
    simp only [bi_eq, strOf_size]
    rw [if_pos (by simp; omega), if_pos (by simp; omega), bt_strOf (by omega) hb, hc, if_neg (by simp; omega), if_pos (by simp; omega), if_neg (by simp; omega), w1, Option.bind_some, w2, Option.bind_some, if_pos (by simp; omega), ew, w3, Option.bind_some, w4, Option.bind_some, iw (x := (q : Int) + 1) (by omega) (by omega), show (q : Int) + 1 = ((q + 1 : Nat) : Int) by omega]
    have ed : dv v (c :: L) = dv (v * 10 + (c - 48)) L := by rw [dv]; congr 1; omega
    rw [ed]
    by_cases p : pt = true
    · rw [if_pos p, iw (x := sc + 1) (by omega) (by omega), ih (sc + 1) (by omega) (by omega), if_pos p, if_pos p, show q + 1 + L.length = q + (c :: L).length by simp; omega]
      congr 1
      simp only [List.length_cons]
      omega
    · rw [if_neg p, ih sc s0 (by omega), if_neg p, if_neg p, show q + 1 + L.length = q + (c :: L).length by simp; omega]
theorem l9_minus {K k : Nat} {t : List Int} (hb : By t) (hl : t.length ≤ 64) {z0 z1 z2 sc : Int} {mn pt : Bool} {w : List Int} {q : Nat} (hq : q < t.length) (h : nth 0 t q = 45) : F.ref02_DocParse_l9 K (k + 1) (strOf t) sc pt (q : Int) z0 z1 z2 mn w = F.ref02_DocParse_l9 K k (strOf t) sc pt ((q + 1 : Nat) : Int) z0 z1 z2 true w := by
  rw [F.ref02_DocParse_l9]
  simp only [bi_eq, strOf_size]
  rw [if_pos (by simp; omega), if_pos (by simp; omega), bt_strOf hq hb, h, if_pos (by decide), iw (x := (q : Int) + 1) (by omega) (by omega), show (q : Int) + 1 = ((q + 1 : Nat) : Int) by omega]
theorem l9_point {K k : Nat} {t : List Int} (hb : By t) (hl : t.length ≤ 64) {z0 z1 z2 sc : Int} {mn pt : Bool} {w : List Int} {q : Nat} (hq : q < t.length) (h : nth 0 t q = 46) : F.ref02_DocParse_l9 K (k + 1) (strOf t) sc pt (q : Int) z0 z1 z2 mn w = F.ref02_DocParse_l9 K k (strOf t) sc true ((q + 1 : Nat) : Int) z0 z1 z2 mn w := by
  rw [F.ref02_DocParse_l9]
  simp only [bi_eq, strOf_size]
  rw [if_pos (by simp; omega), if_pos (by simp; omega), bt_strOf hq hb, h, if_neg (by decide), if_pos (by simp; omega), if_pos (by decide), iw (x := (q : Int) + 1) (by omega) (by omega), show (q : Int) + 1 = ((q + 1 : Nat) : Int) by omega]
theorem l9_end {K k : Nat} {t : List Int} {z0 z1 z2 sc : Int} {mn pt : Bool} {w : List Int} : F.ref02_DocParse_l9 K (k + 1) (strOf t) sc pt (t.length : Int) z0 z1 z2 mn w = some (sc, z0, z1, z2, mn, w) := by
  rw [F.ref02_DocParse_l9]
  simp only [bi_eq, strOf_size]
  rw [if_neg (by simp)]
theorem Shp.value {t sg W G B : List Int} (h : Shp t sg W G B) (hb : By t) (hl : t.length ≤ 64) {K : Nat} (hK : 40000 ≤ K) : F.ref02_DocParse_l9 K K (strOf t) 0 false 0 0 0 0 false [] = some ((B.length : Int), 0, 0, 0, decide (sg = [45]), rl (dv 0 (W ++ B))) := by
  have hz := h.size
  have w := h.whole hb hl
  have r0 : ([] : List Int) = rl 0 := (rl_zero (Int.le_refl 0)).symm
  -- the sign
  have s1 : ∀ k, F.ref02_DocParse_l9 K (k + sg.length) (strOf t) 0 false 0 0 0 0 false [] = F.ref02_DocParse_l9 K k (strOf t) 0 false (sg.length : Int) 0 0 0 (decide (sg = [45])) [] := fun k => by
    rcases h.sgn with e | e
    · have h0 : 0 < t.length := by rw [h.eq, e]; simp
      have e0 : nth 0 t 0 = 45 := by rw [h.eq, e]; rfl
      rw [e]
      exact l9_minus hb hl h0 e0
    · rw [e]; rfl
  -- the digits in front
  have s2 : ∀ k (mn : Bool), F.ref02_DocParse_l9 K (k + W.length) (strOf t) 0 false (sg.length : Int) 0 0 0 mn [] = F.ref02_DocParse_l9 K k (strOf t) 0 false ((sg.length + W.length : Nat) : Int) 0 0 0 mn (rl (dv 0 W)) := fun k mn => by
    have := l9_digits hK hb hl (z0 := 0) (z1 := 0) (z2 := 0) (mn := mn) (pt := false) W k sg.length 0 0 0 h.dig (by omega) (fun i hi => by rw [w.at, nth_app, if_pos hi]) (Int.le_refl 0) (by decide) (by omega) (Int.le_refl 0) (by omega)
    rw [if_neg (by decide)] at this
    rw [r0]
    exact this
  rcases h.frac with ⟨e1, e2⟩ | ⟨e1, e2, e3⟩
  · have hG : G.length = 0 := by rw [e1]; rfl
    have hB : B.length = 0 := by rw [e2]; rfl
    rw [if_pos e1] at hz
    obtain ⟨k, hk⟩ : ∃ k, K = k + 1 + W.length + sg.length := ⟨K - 1 - W.length - sg.length, by omega⟩
    conv => lhs; arg 2; rw [hk]
    rw [s1, s2, show ((sg.length + W.length : Nat) : Int) = (t.length : Int) by omega, l9_end, e2, List.append_nil]
    rfl
  · have f : Frac G B [] := ⟨by rw [e1, List.append_nil], h.digB, fun c C' e => by cases e⟩
    obtain ⟨p1, p2, p3⟩ := frac_pos w f
    simp only [List.length_nil, Nat.add_zero] at p1
    have s3 : ∀ k (mn : Bool), F.ref02_DocParse_l9 K (k + B.length) (strOf t) 0 true ((sg.length + W.length + 1 : Nat) : Int) 0 0 0 mn (rl (dv 0 W)) = F.ref02_DocParse_l9 K k (strOf t) (B.length : Int) true ((sg.length + W.length + 1 + B.length : Nat) : Int) 0 0 0 mn (rl (dv (dv 0 W) B)) := fun k mn => by
      have b0 := (dv_nonneg (l := W) (v := 0) (Int.le_refl 0) h.dig).2
      have b1 := dv_bound W 0 0 (Int.le_refl 0) (by decide) h.dig
      rw [Nat.zero_add] at b1
      have := l9_digits hK hb hl (z0 := 0) (z1 := 0) (z2 := 0) (mn := mn) (pt := true) B k (sg.length + W.length + 1) W.length 0 (dv 0 W) h.digB (by omega) (fun i hi => by rw [p3, nth_app, if_pos hi]) b0 b1 (by omega) (Int.le_refl 0) (by omega)
      rw [if_pos rfl, Int.zero_add] at this
      exact this
    obtain ⟨k, hk⟩ : ∃ k, K = k + 1 + B.length + 1 + W.length + sg.length := ⟨K - 1 - B.length - 1 - W.length - sg.length, by omega⟩
    conv => lhs; arg 2; rw [hk]
    rw [s1, s2, l9_point hb hl (by omega) p2, s3, show ((sg.length + W.length + 1 + B.length : Nat) : Int) = (t.length : Int) by omega, l9_end, dv_app]
theorem Shp.fault {t sg W G B : List Int} (h : Shp t sg W G B) (hb : By t) (hl : t.length ≤ 64) {K : Nat} (hK : 100 ≤ K) : F.ref02_Fault K (strOf t) = some (-1) := by
  have w := h.whole hb hl
  have nz := h.nz
  have fe : ¬ (decide (sg = [45]) = true ∧ (W ++ B).all (· == 48) = true) := fun k => nz ⟨by simpa using k.1, fun x hx => by have := List.all_eq_true.1 k.2 x hx; simpa using this⟩
  rcases h.frac with ⟨e1, e2⟩ | ⟨e1, e2, e3⟩
  · rw [e2, List.append_nil] at fe
    rw [fault_whole_end w hK h.front e1, if_neg fe]
  · have f : Frac G B [] := ⟨by rw [e1, List.append_nil], h.digB, fun c C' e => by cases e⟩
    obtain ⟨r, g1, g2⟩ := fault_frac w f hK h.front
    rw [if_neg (by omega), if_neg e2, if_neg (by simp), if_neg fe] at g2
    rw [g1, g2]
theorem Shp.doc2 {t sg W G B : List Int} (h : Shp t sg W G B) (hb : By t) (hl : t.length ≤ 64) {K : Nat} (hK : 40000 ≤ K) : F.ref02_DocParse K (strOf t) = some (rdA sg W B) := by
  have hz := h.size
  have b0 := (dv_nonneg (l := W ++ B) (v := 0) (Int.le_refl 0) h.digs).2
  have b1 := dv_bound (W ++ B) 0 0 (Int.le_refl 0) (by decide) h.digs
  have b2 : dv 0 (W ++ B) < TOP := Int.lt_of_lt_of_le b1 (Int.le_trans (p10_mono (show 0 + (W ++ B).length ≤ 64 by simp; omega)) (by unfold TOP; decide +kernel))
  unfold F.ref02_DocParse
  rw [bi_eq, if_neg (by rw [strOf_size]; simp; omega), h.fault hb hl (by omega), Option.bind_some, bi_eq, if_neg (by decide), h.value hb hl hK, Option.bind_some]
  simp only
  rw [rdec_ok hK b0 b2, Option.bind_some]
  unfold togD rdA sv
  by_cases c : dv 0 (W ++ B) < 170141183460469231731687303715884105728
  · rw [if_pos c, if_pos c]
    by_cases d : sg = [45]
    · simp only [d, decide_true, if_true]
    · simp only [d, decide_false]; simp
  · rw [if_neg c, if_neg c]
end Go.Proofs.YtfeifhlnidkbbaaGreatDoor.Wide

namespace Go.Proofs.YtfeifhlnidkbbaaGreatDoor.Wide
open Go Go.RowKit Go.Proofs.YtfeifhlnidkbbaaGreatDoor.Vm
theorem cut_digits : ∀ l : List Int, ∃ A R, l = A ++ R ∧ (∀ x ∈ A, dg x) ∧ ∀ c R', R = c :: R' → ¬ dg c
  | [] => ⟨[], [], rfl, fun x hx => by simp at hx, fun c R' e => by cases e⟩
  | a :: l => by
    by_cases h : dg a
    · obtain ⟨A, R, e, h1, h2⟩ := cut_digits l
      refine ⟨a :: A, R, by rw [e]; rfl, fun x hx => ?_, h2⟩
      rcases List.mem_cons.1 hx with e | e
      · rw [e]; exact h
      · exact h1 x e
    · exact ⟨[], a :: l, rfl, fun x hx => by simp at hx, fun c R' e => by injection e with e1 e2; rw [← e1]; exact h⟩
theorem cut_whole {t : List Int} (hb : By t) (hl : t.length ≤ 64) : ∃ sg A R, Whole t sg A R ∧ (sg = [45] ∨ sg = []) := by
  have core : ∀ sg l, t = sg ++ l → (sg = [45] ∨ (sg = [] ∧ (0 < t.length → nth 0 t 0 ≠ 45))) → ∃ sg A R, Whole t sg A R ∧ (sg = [45] ∨ sg = []) := fun sg l e hs => by
    obtain ⟨A, R, e1, h1, h2⟩ := cut_digits l
    exact ⟨sg, A, R, ⟨by rw [e, e1], hb, hl, ⟨hs⟩, h1, h2⟩, hs.imp id (·.1)⟩
  cases t with
  | nil => exact core [] [] rfl (.inr ⟨rfl, fun h => by simp at h⟩)
  | cons c l =>
    by_cases h : c = 45
    · exact core [45] l (by rw [h]; rfl) (.inl rfl)
    · exact core [] (c :: l) rfl (.inr ⟨rfl, fun _ hn => h hn⟩)
def cls (r : Int × Int × Int × Int × Int) : Int := r.snd.snd.snd.snd
theorem doc2_bad {K : Nat} {t : List Int} {r : Int} (hl : t.length ≤ 64) (h : F.ref02_Fault K (strOf t) = some r) (h0 : 0 ≤ r) : ∃ r, F.ref02_DocParse K (strOf t) = some r ∧ cls r = 6 := by
  unfold F.ref02_DocParse
  rw [bi_eq, if_neg (by rw [strOf_size]; simp; omega), h, Option.bind_some, bi_eq, if_pos (by simpa using h0)]
  exact ⟨_, rfl, rfl⟩
theorem classify {t : List Int} (hb : By t) (hl : t.length ≤ 64) {K : Nat} (hK : 40000 ≤ K) : (∃ sg W G B, Shp t sg W G B) ∨ ((∃ r, F.digits_Parse K (strOf t) = some r ∧ cls r = 6) ∧ ∃ r, F.ref02_DocParse K (strOf t) = some r ∧ cls r = 6) := by
  obtain ⟨sg, A, R, w, hs⟩ := cut_whole hb hl
  by_cases hA0 : A = []
  · exact .inr ⟨⟨_, parse_empty w (by omega) hA0, rfl⟩, doc2_bad hl (fault_empty w (by omega) hA0) (by omega)⟩
  by_cases hA1 : 1 < A.length ∧ nth 0 A 0 = 48
  · obtain ⟨r, e1, e2⟩ := fault_lead w (K := K) (by omega) hA1.1 hA1.2
    exact .inr ⟨⟨_, parse_lead w (by omega) hA1.1 hA1.2, rfl⟩, doc2_bad hl e1 e2⟩
  have hA : Front A := ⟨hA0, hA1⟩
  cases hR : R with
  | nil =>
    by_cases z : sg = [45] ∧ ∀ x ∈ A, x = 48
    · obtain ⟨r, s, e⟩ := tail_whole w (K := K) (by omega) hR
      rw [if_pos ⟨by simpa using z.1, z.2⟩] at e
      refine .inr ⟨⟨_, parse_none hl ((read_front w (by omega) hA).trans e), rfl⟩, doc2_bad hl (fault_whole_end w (by omega) hA hR) ?_⟩
      rw [if_pos ⟨by simpa using z.1, List.all_eq_true.2 fun x hx => by simpa using z.2 x hx⟩]
      decide
    · exact .inl ⟨sg, A, [], [], by rw [w.eq, hR], hs, w.dig, hA, .inl ⟨rfl, rfl⟩, fun x hx => by simp at hx, by rw [List.append_nil]; exact z⟩
  | cons c R' =>
    by_cases hc : c = 46
    · subst hc
      obtain ⟨B, C, e1, h1, h2⟩ := cut_digits R'
      have f : Frac R B C := ⟨by rw [hR, e1], h1, h2⟩
      obtain ⟨r, s, e⟩ := tail_frac w f (K := K) (by omega)
      rw [← read_front w (by omega) hA] at e
      obtain ⟨q, g1, g2⟩ := fault_frac w f (K := K) (by omega) hA
      by_cases c1 : 18 < B.length
      · rw [if_pos c1] at e g2
        exact .inr ⟨⟨_, parse_none hl e, rfl⟩, doc2_bad hl g1 g2⟩
      rw [if_neg c1] at e g2
      by_cases c2 : B = []
      · rw [if_pos c2] at e g2
        exact .inr ⟨⟨_, parse_none hl e, rfl⟩, doc2_bad hl g1 g2⟩
      rw [if_neg c2] at e g2
      by_cases c3 : C ≠ []
      · rw [if_pos c3] at e g2
        exact .inr ⟨⟨_, parse_none hl e, rfl⟩, doc2_bad hl g1 g2⟩
      rw [if_neg c3] at e g2
      by_cases z : sg = [45] ∧ ∀ x ∈ A ++ B, x = 48
      · rw [if_pos ⟨by simpa using z.1, z.2⟩] at e
        rw [if_pos ⟨by simpa using z.1, List.all_eq_true.2 fun x hx => by simpa using z.2 x hx⟩] at g2
        exact .inr ⟨⟨_, parse_none hl e, rfl⟩, doc2_bad hl g1 (by omega)⟩
      · have hC : C = [] := Classical.byContradiction c3
        exact .inl ⟨sg, A, R, B, w.eq, hs, w.dig, hA, .inr ⟨by rw [f.eq, hC, List.append_nil], c2, by omega⟩, h1, z⟩
    · obtain ⟨r, e1, e2⟩ := fault_stop w (K := K) (by omega) hA hR hc
      exact .inr ⟨⟨_, parse_stop w (by omega) hA hR hc, rfl⟩, doc2_bad hl e1 e2⟩
-- what is read is what is written
theorem pd_dv : ∀ (L : List Int) (n : Nat) (v : Int), (∀ x ∈ L, dg x) → pd (n + L.length) (dv v L) = pd n v ++ L
  | [], n, v, _ => by simp [dv]
  | c :: L, n, v, h => by
    have b := (h c (by simp)).bd
    have := pd_dv L (n + 1) (10 * v + (c - 48)) fun x hx => h x (by simp [hx])
    rw [dv, show n + (c :: L).length = n + 1 + L.length by simp; omega, this, pd, show (10 * v + (c - 48)) / 10 = v by omega, show 48 + (10 * v + (c - 48)) % 10 = c by omega, List.append_assoc]
    rfl
theorem Shp.text {t sg W G B : List Int} (h : Shp t sg W G B) (hv : dv 0 (W ++ B) < 170141183460469231731687303715884105728) : ∃ D, Dn (dv 0 (W ++ B)) (B.length : Int) D ∧ txtD (sv sg (dv 0 (W ++ B))) (B.length : Int) D = t := by
  have hz := h.size
  have v0 := (dv_nonneg (l := W ++ B) (v := 0) (Int.le_refl 0) h.digs).2
  have vb := dv_bound (W ++ B) 0 0 (Int.le_refl 0) (by decide) h.digs
  have hp := pd_dv (W ++ B) 0 0 h.digs
  have hW : 0 < W.length := List.length_pos_iff.2 h.front.1
  rw [Nat.zero_add, List.length_append] at vb hp
  rw [show pd 0 0 = [] from rfl, List.nil_append] at hp
  have nz : sg = [45] → dv 0 (W ++ B) ≠ 0 := fun e h0 => by
    refine h.nz ⟨e, fun x hx => ?_⟩
    have hall : ∀ (n : Nat), ∀ x ∈ pd n 0, x = 48 := by
      intro n
      induction n with
      | zero => intro x hx; simp [pd] at hx
      | succ n ih =>
        intro x hx
        rw [pd, List.mem_append] at hx
        rcases hx with hx | hx
        · exact ih x (by simpa using hx)
        · simpa using hx
    rw [h0] at hp
    exact hall _ x (hp ▸ hx)
  generalize hV : dv 0 (W ++ B) = V at *
  have last : (W.length + B.length = B.length + 1) ∨ 0 < V / 10 ^ (W.length + B.length - 1) := by
    by_cases c : W.length = 1
    · exact .inl (by omega)
    · refine .inr ?_
      have hf := pd_front (W.length + B.length - 1) V
      rw [show W.length + B.length - 1 + 1 = W.length + B.length by omega, hp] at hf
      have h1 : nth 0 (W ++ B) 0 ≠ 48 := by
        rw [nth_app, if_pos hW]
        exact fun k => h.front.2 ⟨by omega, k⟩
      rw [hf] at h1
      have h1 : (48 : Int) + V / 10 ^ (W.length + B.length - 1) % 10 ≠ 48 := h1
      have := Int.ediv_nonneg v0 (Int.le_of_lt (p10_pos (W.length + B.length - 1)))
      omega
  have d : Dn V (B.length : Int) (W.length + B.length) := by
    refine ⟨by omega, ?_, Int.ediv_eq_zero_of_lt v0 vb, by omega, last.imp (fun k => by omega) id⟩
    rcases Nat.lt_or_ge 39 (W.length + B.length) with c | c
    · exfalso
      rcases last with l | l
      · omega
      · have z : V / 10 ^ 39 = 0 := Int.ediv_eq_zero_of_lt v0 (Int.lt_trans hv (by decide))
        have := dn_zero v0 (show 39 ≤ W.length + B.length - 1 by omega) z
        omega
    · exact c
  refine ⟨_, d, ?_⟩
  have e1 : (if sv sg V < 0 then -sv sg V else sv sg V) = V := by
    unfold sv
    by_cases c : sg = [45]
    · have := nz c
      rw [if_pos c, if_pos (by omega), Int.neg_neg]
    · rw [if_neg c, if_neg (by omega)]
  have e2 : sgt (sv sg V) = sg := by
    unfold sgt sv
    rcases h.sgn with c | c
    · have := nz c
      rw [if_pos c, if_pos (by omega), c]
    · have c' : sg ≠ [45] := by rw [c]; simp
      rw [if_neg c', if_neg (by omega), c]
  have hsp := pd_split W.length B.length V
  rw [hp] at hsp
  obtain ⟨a1, a2⟩ := List.append_inj hsp (by rw [pd_len])
  unfold txtD
  rw [e1, e2, rw_text d, show W.length + B.length - B.length = W.length by omega, ← a1, h.eq]
  congr 2
  unfold behind
  rcases h.frac with ⟨g1, g2⟩ | ⟨g1, g2, g3⟩
  · rw [g2, g1]; rfl
  · rw [if_neg (by have := List.length_pos_iff.2 g2; omega), ← a2, g1]
theorem strOf_inj {a b : List Int} (ha : By a) (hb : By b) : sEq (strOf a) (strOf b) = decide (a = b) := by
  by_cases h : a = b
  · rw [h, seq_self, decide_eq_true rfl]
  · rw [decide_eq_false h]
    cases hq : sEq (strOf a) (strOf b) with
    | false => rfl
    | true =>
      exfalso
      have e := seq_iff.1 hq
      have es := congrArg ByteArray.size e
      rw [strOf_size, strOf_size] at es
      refine h (list_ext es fun i hi => ?_)
      rw [← bt_strOf hi ha, ← bt_strOf (by omega) hb, e]
end Go.Proofs.YtfeifhlnidkbbaaGreatDoor.Wide

namespace Go.Proofs.YtfeifhlnidkbbaaGreatDoor.Wide
open Go Go.RowKit Go.Proofs.YtfeifhlnidkbbaaGreatDoor.Vm
theorem of_ba2 (s : ByteArray) : ∃ l : List Int, s = strOf l ∧ By l ∧ l.length = s.size := by
  refine ⟨(List.range s.size).map fun (i : Nat) => bt s (i : Int), (of_bytes (by simp) fun i hi => ?_).symm, fun x hx => ?_, by simp⟩
  · simp at hi
    rw [nth_eq, List.getD_eq_getElem?_getD, List.getElem?_map, List.getElem?_range hi]
    rfl
  · obtain ⟨i, _, rfl⟩ := List.mem_map.1 hx
    have := bt_bd s i
    omega
def nm3 (c : Nat) : List Int := if c = 0 then [69, 85, 82] else if c = 1 then [85, 83, 68] else if c = 2 then [74, 80, 89] else [75, 87, 68]
def nm4 (c : Nat) : List Int := nm3 c ++ [32]
theorem c_cases {c : Nat} (h : c ≤ 3) : c = 0 ∨ c = 1 ∨ c = 2 ∨ c = 3 := by omega
theorem nm4_len {c : Nat} (h : c ≤ 3) : (nm4 c).length = 4 ∧ By (nm4 c) := by
  rcases c_cases h with rfl | rfl | rfl | rfl <;> exact ⟨rfl, by unfold By; decide⟩
theorem nm4_one {c d : Nat} (hc : c ≤ 3) (hd : d ≤ 3) (h : nm4 c = nm4 d) : c = d := by
  rcases c_cases hc with rfl | rfl | rfl | rfl <;> rcases c_cases hd with rfl | rfl | rfl | rfl <;> first | rfl | (exact absurd h (by decide))
theorem name_ok (K : Nat) {c : Nat} (h : c ≤ 3) : F.money_name K (c : Int) = some (strOf (nm3 c)) := by
  unfold F.money_name
  simp only [bi_eq]
  rcases c_cases h with rfl | rfl | rfl | rfl
  · rw [if_pos (by decide)]; rfl
  · rw [if_neg (by decide), if_pos (by decide)]; rfl
  · rw [if_neg (by decide), if_neg (by decide), if_pos (by decide)]; rfl
  · rw [if_neg (by decide), if_neg (by decide), if_neg (by decide), if_pos (by decide)]; rfl
theorem rname_ok (K : Nat) {c : Nat} (h : c ≤ 3) : F.ref05_Name K (c : Int) = some (strOf (nm3 c)) := by
  rcases c_cases h with rfl | rfl | rfl | rfl <;> (unfold F.ref05_Name; decide +kernel)
theorem sp_app (c : Nat) : strOf (nm3 c) ++ ⟨#[32]⟩ = strOf (nm4 c) := by
  rw [show (⟨#[32]⟩ : ByteArray) = strOf [32] from rfl, strOf_app]; rfl
theorem nm3_len {c : Nat} (h : c ≤ 3) : (nm3 c).length = 3 := by
  rcases c_cases h with rfl | rfl | rfl | rfl <;> rfl
theorem m_pk {n : Int} (hn : Am n) (c : Int) : I64 (n / 18446744073709551616) ∧ Word (n % 18446744073709551616) ∧ Fm (n / 18446744073709551616) (n % 18446744073709551616) (fgs c) ∧ cf (n / 18446744073709551616) (n % 18446744073709551616) = n := by
  have a := hn
  unfold Am at a
  have fb := fgs_bd c
  exact packed (c := n) (sc := fgs c) (by omega) (by omega) fb.1 (by omega)
theorem m_siz {n : Int} (hn : Am n) : siz (n / 18446744073709551616) (n % 18446744073709551616) = if n < 0 then -n else n := by
  obtain ⟨p1, p2, p3, p4⟩ := m_pk hn 0
  rw [siz_abs _ _ p2, p4]
theorem mtxt_len {n sc : Int} {D : Nat} (hD : D ≤ 39) : (txtD n sc D).length ≤ 79 := by
  have := rw_len (if n < 0 then -n else n) sc D
  unfold txtD
  generalize rw_ (if n < 0 then -n else n) sc D = R at *
  unfold sgt
  split <;> simp <;> omega
theorem mwrite_ok {K : Nat} (hK : 40000 ≤ K) {c : Nat} (hc : c ≤ 3) {n : Int} (hn : Am n) {D : Nat} (d : Dn (if n < 0 then -n else n) (fgs c) D) : F.money_Write K (c : Int) n = some (strOf (nm4 c ++ txtD n (fgs c) D), 0) := by
  obtain ⟨p1, p2, p3, p4⟩ := m_pk hn c
  have hl := mtxt_len (n := n) (sc := fgs c) d.most
  rw [← m_siz hn] at d
  have w := dwrite_ok (K := K) (by omega) p1 p2 p3 d
  rw [p4] at w
  unfold F.money_Write
  rw [mto_ok, if_pos ⟨by unfold Cu; omega, hn⟩, Option.bind_some]
  simp only [bi_eq]
  rw [if_neg (by decide), w, Option.bind_some, name_ok K hc, Option.bind_some, sp_app, strOf_size, strOf_size]
  simp only [strOf_size]
  rw [nm3_len hc, if_neg (by decide), (nm4_len hc).1, if_neg (by simp; omega), strOf_app]
theorem mwrite_bad (K : Nat) {c n : Int} (h : ¬ (Cu c ∧ Am n)) : F.money_Write K c n = some (⟨#[]⟩, 3) := by
  unfold F.money_Write
  rw [mto_ok, if_neg h, Option.bind_some]
  simp only [bi_eq]
  rw [if_pos (by decide)]
theorem rmwrite_ok {K : Nat} (hK : 40000 ≤ K) {c : Nat} (hc : c ≤ 3) {n : Int} (hn : Am n) {D : Nat} (d : Dn (if n < 0 then -n else n) (fgs c) D) : F.ref05_Write K (c : Int) n = some (strOf (nm4 c ++ txtD n (fgs c) D)) := by
  obtain ⟨p1, p2, p3, p4⟩ := m_pk hn c
  have hl := mtxt_len (n := n) (sc := fgs c) d.most
  rw [← m_siz hn] at d
  have w := rwrite2_ok (K := K) (by omega) p1 p2 p3 d
  rw [p4] at w
  unfold F.ref05_Write
  rw [docTo_ok hK, if_pos ⟨by unfold Cu; omega, hn⟩, Option.bind_some]
  simp only [bi_eq]
  rw [rname_ok K hc, Option.bind_some, strOf_size, nm3_len hc, if_neg (by decide), w, Option.bind_some, sp_app, strOf_size, strOf_size, (nm4_len hc).1, if_neg (by simp; omega), strOf_app]
-- one currency after the other
theorem mp_step {K k : Nat} {l : List Int} (hb : By l) (hl : l.length ≤ 64) (h4 : 4 ≤ l.length) {c : Nat} (hc : c ≤ 3) {z0 z1 : Int} : F.money_Parse_l4 K (k + 1) (strOf l) (c : Int) z0 z1 = if l.take 4 = nm4 c then
    ((F.digits_Parse K (strOf (l.drop 4))).bind fun r1 => bi (r1.snd.snd.snd.snd != 0) (some (.inl (z0, z1))) (bi (r1.snd.snd.fst != fgs c) (some (.inl (z0, z1))) ((F.money_Of K r1.fst r1.snd.fst r1.snd.snd.fst (c : Int) 0).bind fun r3 => bi (r3.snd.snd == 0) (some (.inr (0, r3.fst, r3.snd.fst))) (F.money_Parse_l4 K k (strOf l) ((c + 1 : Nat) : Int) z0 z1))))
    else F.money_Parse_l4 K k (strOf l) ((c + 1 : Nat) : Int) z0 z1 := by
  have nl := nm4_len hc
  rw [F.money_Parse_l4]
  simp only [bi_eq, strOf_size, figures_ok, Option.bind_some]
  rw [if_pos (by simp; omega), if_neg (by simp; omega), if_pos (by simp; omega), name_ok K hc, Option.bind_some, strOf_size, nm3_len hc, if_neg (by decide), sp_app, iw (x := (c : Int) + 1) (by omega) (by omega), show (c : Int) + 1 = ((c + 1 : Nat) : Int) by omega]
  have e4 : (strOf l).extract 0 4 = strOf (l.take 4) := by rw [strOf_ext hb h4]; rfl
  have e5 : (strOf l).extract 4 ((l.length : Int).toNat) = strOf (l.drop 4) := by
    rw [Int.toNat_natCast, strOf_ext hb (Nat.le_refl _)]
    congr 1
    exact List.take_of_length_le (by rw [List.length_drop]; omega)
  rw [e4, e5, strOf_inj (fun x hx => hb x (List.mem_of_mem_take hx)) nl.2]
  by_cases h : l.take 4 = nm4 c
  · rw [if_neg (by simp [h]), if_pos h, if_pos (by simp; omega)]
  · rw [if_pos (by simp [h]), if_neg h]
theorem rp_step {K k : Nat} {l : List Int} (hb : By l) (hl : l.length ≤ 64) (h4 : 4 ≤ l.length) {c : Nat} (hc : c ≤ 3) {z0 z1 : Int} : F.ref05_DocParse_l4 K (k + 1) (strOf l) (c : Int) z0 z1 = if l.take 4 = nm4 c then
    ((F.ref02_DocParse K (strOf (l.drop 4))).bind fun r1 => bi (r1.snd.snd.snd.snd != 0) (some (.inl (z0, z1))) ((F.ref05_DocOf K r1.fst r1.snd.fst r1.snd.snd.fst (c : Int) 0).bind fun r2 => bi (r2.snd.snd == 0) ((F.ref05_Write K r2.fst r2.snd.fst).bind fun r3 => bi (sEq r3 (strOf l)) (some (.inr (0, r2.fst, r2.snd.fst))) (F.ref05_DocParse_l4 K k (strOf l) ((c + 1 : Nat) : Int) z0 z1)) (F.ref05_DocParse_l4 K k (strOf l) ((c + 1 : Nat) : Int) z0 z1)))
    else F.ref05_DocParse_l4 K k (strOf l) ((c + 1 : Nat) : Int) z0 z1 := by
  have nl := nm4_len hc
  rw [F.ref05_DocParse_l4]
  simp only [bi_eq, strOf_size]
  rw [if_pos (by simp; omega), if_neg (by simp; omega), if_pos (by simp; omega), rname_ok K hc, Option.bind_some, strOf_size, nm3_len hc, if_neg (by decide), sp_app, iw (x := (c : Int) + 1) (by omega) (by omega), show (c : Int) + 1 = ((c + 1 : Nat) : Int) by omega]
  have e4 : (strOf l).extract 0 4 = strOf (l.take 4) := by rw [strOf_ext hb h4]; rfl
  have e5 : (strOf l).extract 4 ((l.length : Int).toNat) = strOf (l.drop 4) := by
    rw [Int.toNat_natCast, strOf_ext hb (Nat.le_refl _)]
    congr 1
    exact List.take_of_length_le (by rw [List.length_drop]; omega)
  rw [e4, e5, strOf_inj (fun x hx => hb x (List.mem_of_mem_take hx)) nl.2]
  by_cases h : l.take 4 = nm4 c
  · rw [if_neg (by simp [h]), if_pos h, if_pos (by simp; omega)]
  · rw [if_pos (by simp [h]), if_neg h]
theorem mp_none {K : Nat} {l : List Int} (hb : By l) (hl : l.length ≤ 64) (h4 : 4 ≤ l.length) {z0 z1 : Int} : ∀ (k c : Nat), c ≤ 4 → 4 - c < k → (∀ d, c ≤ d → d ≤ 3 → l.take 4 ≠ nm4 d) →
    F.money_Parse_l4 K k (strOf l) (c : Int) z0 z1 = some (.inl (z0, z1)) ∧ F.ref05_DocParse_l4 K k (strOf l) (c : Int) z0 z1 = some (.inl (z0, z1))
  | 0, c, _, h, _ => by omega
  | k + 1, c, hc, hk, hd => by
    by_cases e : c = 4
    · subst e
      rw [F.money_Parse_l4, F.ref05_DocParse_l4]
      simp only [bi_eq]
      rw [if_neg (by decide), if_neg (by decide)]
      exact ⟨rfl, rfl⟩
    · rw [mp_step hb hl h4 (by omega), rp_step hb hl h4 (by omega), if_neg (hd c (Nat.le_refl _) (by omega)), if_neg (hd c (Nat.le_refl _) (by omega))]
      exact mp_none hb hl h4 k (c + 1) (by omega) (by omega) fun d h1 h2 => hd d (by omega) h2
theorem mp_skip {K : Nat} {l : List Int} (hb : By l) (hl : l.length ≤ 64) (h4 : 4 ≤ l.length) {z0 z1 : Int} (k : Nat) : ∀ (c : Nat), c ≤ 3 → (∀ d, d < c → l.take 4 ≠ nm4 d) →
    F.money_Parse_l4 K (k + c) (strOf l) 0 z0 z1 = F.money_Parse_l4 K k (strOf l) (c : Int) z0 z1 ∧ F.ref05_DocParse_l4 K (k + c) (strOf l) 0 z0 z1 = F.ref05_DocParse_l4 K k (strOf l) (c : Int) z0 z1
  | 0, _, _ => ⟨rfl, rfl⟩
  | c + 1, hc, hd => by
    have ih := mp_skip hb hl h4 (K := K) (z0 := z0) (z1 := z1) (k + 1) c (by omega) fun d h => hd d (by omega)
    rw [mp_step hb hl h4 (by omega), rp_step hb hl h4 (by omega), if_neg (hd c (by omega)), if_neg (hd c (by omega))] at ih
    rw [show k + (c + 1) = k + 1 + c by omega]
    exact ih
theorem mp_short {K : Nat} {l : List Int} (h4 : l.length < 4) {z0 z1 : Int} : ∀ (k c : Nat), c ≤ 4 → 4 - c < k →
    F.money_Parse_l4 K k (strOf l) (c : Int) z0 z1 = some (.inl (z0, z1)) ∧ F.ref05_DocParse_l4 K k (strOf l) (c : Int) z0 z1 = some (.inl (z0, z1))
  | 0, c, _, h => by omega
  | k + 1, c, hc, hk => by
    rw [F.money_Parse_l4, F.ref05_DocParse_l4]
    simp only [bi_eq, strOf_size]
    by_cases e : c = 4
    · subst e
      rw [if_neg (by decide), if_neg (by decide)]
      exact ⟨rfl, rfl⟩
    · rw [if_pos (by simp; omega), if_pos (by simp; omega), if_pos (by simp; omega), if_pos (by simp; omega), iw (x := (c : Int) + 1) (by omega) (by omega), show (c : Int) + 1 = ((c + 1 : Nat) : Int) by omega]
      exact mp_short h4 k (c + 1) (by omega) (by omega)
theorem mun_same {C : Int} (h0 : -170141183460469231731687303715884105728 < C) (h1 : C < 170141183460469231731687303715884105728) (c : Int) : mun (C / 18446744073709551616) (C % 18446744073709551616) (fgs c) c 0 = C := by
  have fb := fgs_bd c
  obtain ⟨p1, p2, p3, p4⟩ := packed (c := C) (sc := fgs c) h0 h1 fb.1 (by omega)
  unfold mun scaledS
  rw [if_pos (Int.le_refl _), Int.sub_self, p10z_zero, roundS_one, sgB_siz, p4, Int.mul_one]
theorem sv_bd {sg : List Int} {V : Int} (h0 : 0 ≤ V) (h1 : V < 170141183460469231731687303715884105728) : -170141183460469231731687303715884105728 < sv sg V ∧ sv sg V < 170141183460469231731687303715884105728 ∧ (if sv sg V < 0 then -sv sg V else sv sg V) = V := by
  unfold sv
  by_cases c : sg = [45]
  · rw [if_pos c]
    by_cases z : V = 0
    · subst z; decide
    · rw [if_pos (by omega)]; omega
  · rw [if_neg c, if_neg (by omega)]; omega
theorem texts_ok {K : Nat} (hK : 40000 ≤ K) (s : ByteArray) : ∃ r, F.money_Parse K s = some r ∧ F.ref05_DocParse K s = some r ∧ (r.snd.snd = 0 → F.money_Write K r.fst r.snd.fst = some (s, 0)) := by
  obtain ⟨l, rfl, hb, hlz⟩ := of_ba2 s
  unfold F.money_Parse F.ref05_DocParse
  simp only [bi_eq, strOf_size]
  by_cases hl : l.length ≤ 64
  rotate_left
  · rw [if_pos (by simp; omega), if_pos (by simp; omega)]
    exact ⟨_, rfl, rfl, fun h => by simp at h⟩
  rw [if_neg (by simp; omega), if_neg (by simp; omega)]
  have out : ∀ {a b : Option (Int × Int ⊕ Int × Int × Int)}, a = some (.inl (0, 0)) → b = some (.inl (0, 0)) → ∃ r, (casO a (fun r0 => (some ((0, 0, 6) : Int × Int × Int))) (fun r1 => (some ((r1.snd.fst, r1.snd.snd, r1.fst))))) = some r ∧ (casO b (fun r0 => (some ((0, 0, 6) : Int × Int × Int))) (fun r1 => (some ((r1.snd.fst, r1.snd.snd, r1.fst))))) = some r ∧ (r.snd.snd = 0 → F.money_Write K r.fst r.snd.fst = some (strOf l, 0)) := fun {a b} h1 h2 => by
    rw [h1, h2]
    exact ⟨_, rfl, rfl, fun h => by simp at h⟩
  by_cases h4 : 4 ≤ l.length
  rotate_left
  · have := mp_short (K := K) (l := l) (by omega) (z0 := 0) (z1 := 0) K 0 (by omega) (by omega)
    exact out this.1 this.2
  by_cases hm : ∃ c, c ≤ 3 ∧ l.take 4 = nm4 c
  rotate_left
  · have := mp_none (K := K) hb hl h4 (z0 := 0) (z1 := 0) K 0 (by omega) (by omega) fun d _ h2 e => hm ⟨d, h2, e⟩
    exact out this.1 this.2
  obtain ⟨c, hc, e4⟩ := hm
  have other : ∀ d, d ≤ 3 → d ≠ c → l.take 4 ≠ nm4 d := fun d hd hne e => hne (nm4_one hd hc (e.symm.trans e4))
  obtain ⟨k, hk⟩ : ∃ k, K = k + 1 + c := ⟨K - 1 - c, by omega⟩
  have sk := mp_skip (K := K) hb hl h4 (z0 := 0) (z1 := 0) (k + 1) c hc fun d hd => other d (by omega) (by omega)
  rw [← hk] at sk
  have after := mp_none (K := K) hb hl h4 (z0 := 0) (z1 := 0) k (c + 1) (by omega) (by omega) fun d h1 h2 => other d h2 (by omega)
  rw [sk.1, sk.2, mp_step hb hl h4 hc, rp_step hb hl h4 hc, if_pos e4, if_pos e4, after.1, after.2]
  have el : l = nm4 c ++ l.drop 4 := by rw [← e4, List.take_append_drop]
  have tb : By (l.drop 4) := fun x hx => hb x (List.mem_of_mem_drop hx)
  have tl : (l.drop 4).length ≤ 60 := by rw [List.length_drop]; omega
  generalize l.drop 4 = t at *
  have Cc : Cu (c : Int) := by unfold Cu; omega
  rcases classify tb (show t.length ≤ 64 by omega) hK with ⟨sg, W, G, B, h⟩ | ⟨⟨r1, g1, g2⟩, r2, g3, g4⟩
  rotate_left
  · unfold cls at g2 g4
    refine out ?_ ?_
    · rw [g1, Option.bind_some, g2]; rfl
    · rw [g3, Option.bind_some, g4]; rfl
  rw [h.parse tb (by omega) (K := K) (by omega), h.doc2 tb (by omega) hK, Option.bind_some, Option.bind_some]
  unfold rdA
  by_cases hv : dv 0 (W ++ B) < 170141183460469231731687303715884105728
  rotate_left
  · rw [if_neg hv]
    exact out rfl rfl
  rw [if_pos hv]
  simp only [bi_eq]
  have v0 := (dv_nonneg (l := W ++ B) (v := 0) (Int.le_refl 0) h.digs).2
  obtain ⟨D, dD, dT⟩ := h.text hv
  have hsz := h.size
  generalize dv 0 (W ++ B) = V at *
  obtain ⟨q1, q2, q3⟩ := sv_bd (sg := sg) v0 hv
  generalize sv sg V = C at *
  have fb := fgs_bd (c : Int)
  obtain ⟨p1, p2, p3, p4⟩ := packed (c := C) (sc := (B.length : Int)) q1 q2 (by omega) (by omega)
  simp only [show ((0 : Int) != 0) = false from rfl, Bool.false_eq_true, if_false]
  rw [mof_ok (by omega) p1 p2 Cc (by decide) (by decide), docOf_ok hK p1 p2 Cc (by decide) (by decide), if_pos p3, Option.bind_some, Option.bind_some]
  by_cases hsc : (B.length : Int) = fgs c
  · rw [if_neg (show ¬ (((B.length : Int) != fgs (c : Int)) = true) by simpa using hsc), hsc, mun_same q1 q2]
    by_cases ha : Am C
    · simp only [if_pos ha]
      rw [hsc, ← q3] at dD
      rw [hsc] at dT
      have w1 := mwrite_ok hK hc ha dD
      have w2 := rmwrite_ok hK hc ha dD
      rw [dT, ← el] at w1 w2
      rw [w2, Option.bind_some, seq_self]
      exact ⟨_, rfl, rfl, fun _ => w1⟩
    · simp only [if_neg ha]
      exact out rfl rfl
  · rw [if_pos (show (((B.length : Int) != fgs (c : Int)) = true) by simpa using hsc)]
    generalize mun (C / 18446744073709551616) (C % 18446744073709551616) (B.length : Int) (c : Int) 0 = v
    by_cases ha : Am v
    · simp only [if_pos ha]
      have a := ha
      unfold Am at a
      obtain ⟨E, dE⟩ := dn_ex (N := if v < 0 then -v else v) (sc := fgs c) (by split <;> omega) (by split <;> omega) fb.1 (by omega)
      rw [rmwrite_ok hK hc ha dE, Option.bind_some]
      have ne : sEq (strOf (nm4 c ++ txtD v (fgs c) E)) (strOf l) = false := by
        cases hq : sEq (strOf (nm4 c ++ txtD v (fgs c) E)) (strOf l) with
        | false => rfl
        | true =>
          exfalso
          obtain ⟨m1, m2, m3, m4⟩ := m_pk ha (c : Int)
          obtain ⟨f, hf⟩ : ∃ f : Nat, fgs (c : Int) = (f : Int) := ⟨(fgs c).toNat, by omega⟩
          rw [hf] at dE m3 hq hsc
          rw [← m_siz ha] at dE
          obtain ⟨B2, doc, hB2, hv2⟩ := txt_doc m1 m2 m3 dE
          rw [m4] at doc
          rw [strOf_inj (By.app (nm4_len hc).2 doc.by_) hb, decide_eq_true_iff] at hq
          have ht : txtD v (f : Int) E = t := List.append_cancel_left (hq.trans el)
          have n2 : sgt v = [45] → dv 0 (pd (E - f) (siz (v / 18446744073709551616) (v % 18446744073709551616) / 10 ^ f) ++ B2) ≠ 0 := fun hs => by
            rw [hv2, m_siz ha]
            unfold sgt at hs
            split at hs
            · rename_i c; rw [if_pos c]; omega
            · cases hs
          have r1 := doc.read (K := K) (by omega) n2
          rw [ht, h.parse tb (by omega) (K := K) (by omega)] at r1
          have r1 := Option.some.inj r1
          unfold rdA at r1
          have r2 : (B.length : Int) = (B2.length : Int) := by
            split at r1
            · exact congrArg (·.2.2.1) r1
            · have := congrArg (·.2.2.2.2) r1; simp at this
          omega
      rw [ne]
      exact out rfl rfl
    · simp only [if_neg ha]
      exact out rfl rfl
theorem back_ok {K : Nat} (hK : 40000 ≤ K) {c : Nat} (hc : c ≤ 3) {n : Int} (hn : Am n) {D : Nat} (d : Dn (if n < 0 then -n else n) (fgs c) D) : F.money_Parse K (strOf (nm4 c ++ txtD n (fgs c) D)) = some ((c : Int), n, 0) := by
  have a := hn
  unfold Am at a
  obtain ⟨p1, p2, p3, p4⟩ := m_pk hn c
  obtain ⟨f, hf⟩ : ∃ f : Nat, fgs (c : Int) = (f : Int) := ⟨(fgs c).toNat, by have := fgs_bd (c : Int); omega⟩
  rw [← m_siz hn] at d
  rw [hf] at d p3 ⊢
  obtain ⟨B, doc, hB, hv⟩ := txt_doc p1 p2 p3 d
  rw [p4] at doc
  have nz : sgt n = [45] → dv 0 (pd (D - f) (siz (n / 18446744073709551616) (n % 18446744073709551616) / 10 ^ f) ++ B) ≠ 0 := fun hs => by
    rw [hv, m_siz hn]
    unfold sgt at hs
    split at hs
    · rename_i c; rw [if_pos c]; omega
    · cases hs
  have rd := doc.read (K := K) (by omega) nz
  have ev : sv (sgt n) (siz (n / 18446744073709551616) (n % 18446744073709551616)) = n := by
    unfold sv sgt
    rw [m_siz hn]
    by_cases c : n < 0
    · simp [c]
    · simp [c]
  rw [hv, ev, hB] at rd
  have hl := doc.len
  have hby := doc.by_
  generalize txtD n (f : Int) D = t at *
  have nl := nm4_len hc
  have lb : By (nm4 c ++ t) := By.app nl.2 hby
  have ll : (nm4 c ++ t).length ≤ 64 := by simp only [List.length_append]; omega
  have l4 : 4 ≤ (nm4 c ++ t).length := by simp only [List.length_append]; omega
  have e4 : (nm4 c ++ t).take 4 = nm4 c := by rw [← nl.1, List.take_left]
  have e5 : (nm4 c ++ t).drop 4 = t := by rw [← nl.1, List.drop_left]
  obtain ⟨k, hk⟩ : ∃ k, K = k + 1 + c := ⟨K - 1 - c, by omega⟩
  have sk := (mp_skip (K := K) lb ll l4 (z0 := 0) (z1 := 0) (k + 1) c hc fun d hd e => by have := nm4_one (by omega) hc (e.symm.trans e4); omega).1
  rw [← hk] at sk
  unfold F.money_Parse
  simp only [bi_eq, strOf_size]
  rw [if_neg (by simp only [List.length_append] at ll ⊢; simp; omega), sk, mp_step lb ll l4 hc, if_pos e4, e5, rd, Option.bind_some]
  simp only [bi_eq]
  rw [if_neg (by decide), if_neg (by simp [hf]), ← hf, mback (by omega) (show Cu (c : Int) by unfold Cu; omega) hn (by decide) (by decide), Option.bind_some]
  rfl
end Go.Proofs.YtfeifhlnidkbbaaGreatDoor.Wide

namespace Go.Proofs.YtfeifhlnidkbbaaGreatDoor.Wide
open Go Go.RowKit Go.Proofs.YtfeifhlnidkbbaaGreatDoor.Vm
theorem awake05t : F.law05_awake 100000 = some true := by kernel_rfl
theorem MoneyTexts {K : Nat} (hK : 40000 ≤ K) (hA : F.law05_awake K = some true) (c n : Int) (s : ByteArray) : F.law05_MoneyTexts K c n s = some true := by
  obtain ⟨r, t1, t2, t3⟩ := texts_ok hK s
  unfold F.law05_MoneyTexts
  by_cases h : Cu c ∧ Am n
  · have hc := h.1
    have ha := h.2
    unfold Cu at hc
    obtain ⟨m, rfl⟩ : ∃ m : Nat, c = (m : Int) := ⟨c.toNat, by omega⟩
    have fb := fgs_bd (m : Int)
    have a := ha
    unfold Am at a
    obtain ⟨D, d⟩ := dn_ex (N := if n < 0 then -n else n) (sc := fgs m) (by split <;> omega) (by split <;> omega) fb.1 (by omega)
    have w1 := mwrite_ok hK (c := m) (by omega) ha d
    have w2 := rmwrite_ok hK (c := m) (by omega) ha d
    have w3 := back_ok hK (c := m) (by omega) ha d
    rw [hA, Option.bind_some, w1, Option.bind_some, rform_ok, Option.bind_some]
    simp only [w2, w3, t1, t2, Option.bind_some, bi_eq, seq_self]
    by_cases z : r.snd.snd = 0
    · simp [h, z, t3 z, seq_self]
    · simp [h, z]
  · have w1 := mwrite_bad K h
    rw [hA, Option.bind_some, w1, Option.bind_some, rform_ok, Option.bind_some]
    simp only [t1, t2, Option.bind_some, bi_eq, seq_self]
    have e : sEq ⟨#[]⟩ ⟨#[]⟩ = true := seq_self _
    by_cases z : r.snd.snd = 0
    · simp [h, z, t3 z, seq_self, e]
    · simp [h, z, e]
namespace L
theorem MoneyTexts {c n : Int} {s : ByteArray} (w0 : (Lit.int .i64 c).wf = true) (w1 : (Lit.int .i64 n).wf = true) (w2 : s.size ≤ maxLen) : F.law05_MoneyTexts 100000 c n s = some true := Wide.MoneyTexts (by decide) awake05t c n s
end L
end Go.Proofs.YtfeifhlnidkbbaaGreatDoor.Wide
