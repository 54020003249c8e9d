/- DigitsFronts. Conditions: none here. -/
import Derived.Test.YtmlohnfghomghaaDoorPTg
import Derived.Test.YtmlohnfghomghaaDoorVmZ
import Derived.SizedLaws
set_option linter.unusedVariables false
set_option linter.unusedSimpArgs false
namespace Go.Proofs.YtmlohnfghomghaaDoor.Wide
open Go Go.RowKit Go.Proofs.YtmlohnfghomghaaDoor.Vm
/-- What no text of a number holds at its head here. -/
def Odd (X : List Int) : Prop := ∀ c X', X = c :: X' → ¬ dg c ∧ c ≠ 45 ∧ c ≠ 46
theorem whole_mk {sg A R : List Int} (hs : sg = [45] ∨ sg = []) (hd : ∀ x ∈ A, dg x) (hb : By R) (hl : sg.length + A.length + R.length ≤ 64) (hR : ∀ c R', R = c :: R' → ¬ dg c ∧ (A = [] → c ≠ 45)) : Whole (sg ++ (A ++ R)) sg A R := by
  refine ⟨rfl, ?_, by simp only [List.length_append]; omega, ⟨?_⟩, hd, fun c R' e => (hR c R' e).1⟩
  · refine By.app ?_ (By.app (By.dg hd) hb)
    rcases hs with e | e <;> rw [e]
    · intro x hx; simp at hx; omega
    · intro x hx; simp at hx
  · rcases hs with e | e
    · exact .inl e
    · refine .inr ⟨e, fun hp hn => ?_⟩
      subst e
      rw [List.nil_append] at hn hp
      cases A with
      | nil =>
        cases R with
        | nil => simp at hp
        | cons c R' => exact (hR c R' rfl).2 rfl hn
      | cons a A' =>
        have := (hd a (by simp)).bd
        have hn : a = 45 := hn
        omega
def at_ (r : Int × Int × Int × Int × Int) : Int := r.snd.snd.snd.fst
def cl_ (r : Int × Int × Int × Int × Int) : Int := r.snd.snd.snd.snd
/-- A front of a text, and what stands behind it. -/
theorem Doc.fronts {t sg W G B : List Int} (h : Doc t sg W G B) {K : Nat} (hK : 400 ≤ K) {k : Nat} {X : List Int} (hk : k ≤ t.length) (hX : Odd X) (hb : By X) (hl : k + X.length ≤ 64) :
    ∃ r, F.digits_Parse K (strOf (t.take k ++ X)) = some r ∧ (X ≠ [] → at_ r = k ∧ cl_ r = 6) ∧ (X = [] → cl_ r = 0 ∨ (cl_ r = 6 ∧ (at_ r = k ∨ (at_ r = 0 ∧ k ≠ 0 ∧ sg = [45])))) := by
  have hz := congrArg List.length h.eq
  simp only [List.length_append] at hz
  have one : ∀ n : Nat, n = k → F.digits_Parse K (strOf (t.take k ++ X)) = some (0, 0, 0, (n : Int), 6) → ∃ r, F.digits_Parse K (strOf (t.take k ++ X)) = some r ∧ (X ≠ [] → at_ r = k ∧ cl_ r = 6) ∧ (X = [] → cl_ r = 0 ∨ (cl_ r = 6 ∧ (at_ r = k ∨ (at_ r = 0 ∧ k ≠ 0 ∧ sg = [45])))) :=
    fun n hn e => ⟨_, e, fun _ => ⟨by rw [← hn]; rfl, rfl⟩, fun _ => .inr ⟨rfl, .inl (by rw [← hn]; rfl)⟩⟩
  by_cases c0 : k < sg.length
  · have hs : k = 0 := by rcases h.sgn with e | e <;> rw [e] at c0 <;> simp at c0; exact c0
    subst hs
    have w : Whole ([] ++ ([] ++ X)) [] [] X := whole_mk (.inr rfl) (fun x hx => by simp at hx) hb (by simp; omega) (fun c R' e => ⟨(hX c R' e).1, fun _ => (hX c R' e).2.1⟩)
    have e := parse_empty w (K := K) (by omega) rfl
    exact one 0 rfl e
  by_cases c1 : k - sg.length ≤ W.length
  · have ht : t.take k = sg ++ W.take (k - sg.length) := by
      rw [h.eq, List.take_append, List.take_append, List.take_of_length_le (by omega), show k - sg.length - W.length = 0 by omega, List.take_zero, List.append_nil]
    have hA : ∀ x ∈ W.take (k - sg.length), dg x := fun x hx => h.dig x (List.mem_of_mem_take hx)
    have hAl : (W.take (k - sg.length)).length = k - sg.length := by rw [List.length_take]; omega
    have w : Whole (sg ++ (W.take (k - sg.length) ++ X)) sg (W.take (k - sg.length)) X := whole_mk h.sgn hA hb (by omega) (fun c R' e => ⟨(hX c R' e).1, fun _ => (hX c R' e).2.1⟩)
    have et : t.take k ++ X = sg ++ (W.take (k - sg.length) ++ X) := by rw [ht, List.append_assoc]
    by_cases c2 : k - sg.length = 0
    · have e := parse_empty w (K := K) (by omega) (List.length_eq_zero_iff.1 (by omega))
      rw [← et] at e
      exact one sg.length (by omega) e
    · have hf : Front (W.take (k - sg.length)) := by
        refine ⟨fun e => by rw [e] at hAl; simp at hAl; omega, fun e => h.front.2 ⟨by omega, ?_⟩⟩
        have := e.2
        rw [nth_eq, List.getD_eq_getElem?_getD, List.getElem?_take, if_pos (by omega), ← List.getD_eq_getElem?_getD, ← nth_eq] at this
        exact this
      cases X with
      | cons c X' =>
        have e := parse_stop w (K := K) (by omega) hf rfl (hX c X' rfl).2.2
        rw [← et] at e
        exact one _ (by omega) e
      | nil =>
        have hv : dv 0 (W.take (k - sg.length)) < 170141183460469231731687303715884105728 := by
          have h1 := dv_mono (l := W.take (k - sg.length)) (m := W.drop (k - sg.length)) (fun y hy => h.dig y (List.mem_of_mem_drop hy)) hA
          rw [List.take_append_drop] at h1
          have h2 := dv_mono (l := W) (m := B) h.digB h.dig
          have h3 := h.val
          omega
        have e := parse_whole w (K := K) (by omega) hf rfl hv
        rw [← et] at e
        refine ⟨_, e, fun x => absurd rfl x, fun _ => ?_⟩
        by_cases z : sg = [45] ∧ ∀ x ∈ W.take (k - sg.length), x = 48
        · rw [if_pos z]
          exact .inr ⟨rfl, .inr ⟨rfl, by omega, z.1⟩⟩
        · rw [if_neg z]
          exact .inl rfl
  · rcases h.frac with ⟨e1, e2⟩ | ⟨e1, e2, e3⟩
    · rw [e1] at hz; simp at hz; omega
    have hG : G.length = 1 + B.length := by rw [e1]; simp; omega
    obtain ⟨j, hj⟩ : ∃ j, k = sg.length + W.length + 1 + j := ⟨k - sg.length - W.length - 1, by omega⟩
    have ht : t.take k = sg ++ (W ++ 46 :: B.take j) := by
      rw [h.eq, List.take_append, List.take_append, List.take_of_length_le (by omega), List.take_of_length_le (by omega), show k - sg.length - W.length = j + 1 by omega, e1, List.take_succ_cons]
    have hBl : (B.take j).length = j := by rw [List.length_take]; omega
    have hBd : ∀ x ∈ B.take j, dg x := fun x hx => h.digB x (List.mem_of_mem_take hx)
    have hRb : By (46 :: (B.take j ++ X)) := by
      intro x hx
      rcases List.mem_cons.1 hx with e | e
      · omega
      · exact By.app (By.dg hBd) hb x e
    have w : Whole (sg ++ (W ++ (46 :: (B.take j ++ X)))) sg W (46 :: (B.take j ++ X)) := whole_mk h.sgn h.dig hRb (by simp; omega) (fun c R' e => by
      injection e with e4 e5
      subst e4
      exact ⟨nodg46, fun _ => by decide⟩)
    have et : t.take k ++ X = sg ++ (W ++ (46 :: (B.take j ++ X))) := by rw [ht, List.append_assoc, List.append_assoc]; rfl
    have fr : Frac (46 :: (B.take j ++ X)) (B.take j) X := ⟨rfl, hBd, fun c C' e => (hX c C' e).1⟩
    have hv : dv 0 (W ++ B.take j) < 170141183460469231731687303715884105728 := by
      have h1 := dv_mono (l := W ++ B.take j) (m := B.drop j) (fun y hy => h.digB y (List.mem_of_mem_drop hy)) (fun y hy => (List.mem_append.1 hy).elim (h.dig y) (hBd y))
      rw [List.append_assoc, List.take_append_drop] at h1
      have h3 := h.val
      omega
    have e := parse_frac w fr (K := K) (by omega) h.front (by omega) hv
    rw [← et] at e
    by_cases c2 : B.take j = []
    · rw [if_pos c2] at e
      have : j = 0 := by rw [c2] at hBl; simp at hBl; omega
      exact one _ (by omega) e
    rw [if_neg c2] at e
    by_cases c3 : X ≠ []
    · rw [if_pos c3] at e
      exact one _ (by omega) e
    rw [if_neg c3] at e
    refine ⟨_, e, fun x => absurd x c3, fun _ => ?_⟩
    by_cases z : sg = [45] ∧ ∀ x ∈ W ++ B.take j, x = 48
    · rw [if_pos z]
      exact .inr ⟨rfl, .inr ⟨rfl, by omega, z.1⟩⟩
    · rw [if_neg z]
      exact .inl rfl
/-- The bytes of a text. -/
theorem of_ba (s : ByteArray) : ∃ l : List Int, s = strOf l ∧ By l ∧ l.length = s.size := by
  refine ⟨(List.range s.size).map fun (i : Nat) => bt s (i : Int), (of_bytes (by simp) fun i hi => ?_).symm, fun x hx => ?_, by simp⟩
  · simp at hi
    rw [nth_eq, List.getD_eq_getElem?_getD, List.getElem?_map, List.getElem?_range hi]
    rfl
  · obtain ⟨i, _, rfl⟩ := List.mem_map.1 hx
    have := bt_bd s i
    omega
/-- What the law looks at last. -/
def frq (K : Nat) (t : ByteArray) (kk x2 : Int) (s3 : ByteArray) : Option Bool :=
  bi (x2 == 45) (some true) (bi (x2 == 46) (some true) (bi (Decidable.decide (IntKind.i64.wrap (IntKind.i64.wrap (kk + 1) + (s3.size : Int)) > 64)) (some true)
    (bi (true && Decidable.decide (0 ≤ kk) && Decidable.decide (kk ≤ (t.size : Int)))
      (bi (Decidable.decide ((((t.extract 0 kk.toNat).size + (strOf [x2]).size : Nat) : Int) > 9223372036854775807)) none
        (bi (Decidable.decide ((((t.extract 0 kk.toNat ++ strOf [x2]).size + s3.size : Nat) : Int) > 9223372036854775807)) none
          ((F.digits_Parse K (t.extract 0 kk.toNat ++ strOf [x2] ++ s3)).bind fun r => bi (r.snd.snd.snd.snd == 6) (some (r.snd.snd.snd.fst == kk)) (some false))))
      none)))
def frQ (K : Nat) (t : ByteArray) (kk x2 : Int) (s3 : ByteArray) : Option Bool := bi (Decidable.decide (x2 ≥ 48)) (bi (Decidable.decide (x2 ≤ 57)) (some true) (frq K t kk x2 s3)) (frq K t kk x2 s3)
def frL (K : Nat) (t : ByteArray) (kk x2 : Int) (s3 : ByteArray) : Option Bool :=
  (bi (true && Decidable.decide (0 ≤ kk) && Decidable.decide (kk ≤ (t.size : Int)))
    ((F.digits_Parse K (t.extract 0 kk.toNat)).bind fun r2 => (bi (r2.snd.snd.snd.snd != 0)
      (bi (r2.snd.snd.snd.snd != 6) (some false)
        (bi (r2.snd.snd.snd.fst != kk)
          (bi (r2.snd.snd.snd.fst != 0) (some false)
            (bi (kk == 0) (some false)
              (bi (true && Decidable.decide (0 < (t.size : Int))) (bi (bt t 0 != 45) (some false) (frQ K t kk x2 s3)) none)))
          (frQ K t kk x2 s3)))
      (frQ K t kk x2 s3))) none)
theorem fronts_eq (K : Nat) (a0 a1 a2 x1 x2 : Int) (s3 : ByteArray) : F.law02_DigitsFronts K a0 a1 a2 x1 x2 s3 = ((F.law02_awake K).bind fun r0 => (bi (!r0) (some false) ((F.digits_Write K a0 a1 a2).bind fun r1 => (bi (r1.snd != 0) (some (sEq r1.fst ⟨#[]⟩))
    (bi (Decidable.decide (IntKind.i64.wrap ((r1.fst.size : Int) + 1) = 0)) none (frL K r1.fst ((IntKind.i64.wrap x1).tmod (IntKind.i64.wrap ((r1.fst.size : Int) + 1))) x2 s3)))))) := rfl
theorem frq_ok {K : Nat} (hK : 400 ≤ K) {t sg W G B : List Int} (h : Doc t sg W G B) {k : Nat} (hk : k ≤ t.length) {x2 : Int} (hx : 0 ≤ x2 ∧ x2 < 256) (hn : ¬ dg x2) (s3 : ByteArray) (hs : s3.size ≤ 4611686018427387904) : frq K (strOf t) (k : Int) x2 s3 = some true := by
  have hl := h.len
  unfold frq
  rw [bi_eq]
  by_cases c1 : x2 = 45
  · rw [if_pos (by simpa using c1)]
  rw [if_neg (by simpa using c1), bi_eq]
  by_cases c2 : x2 = 46
  · rw [if_pos (by simpa using c2)]
  rw [if_neg (by simpa using c2), bi_eq, iw (x := (k : Int) + 1) (by omega) (by omega), iw (x := (k : Int) + 1 + (s3.size : Int)) (by omega) (by omega)]
  by_cases c3 : (k : Int) + 1 + (s3.size : Int) > 64
  · rw [if_pos (by simpa using c3)]
  rw [if_neg (by simpa using c3)]
  obtain ⟨l, rfl, lb, ll⟩ := of_ba s3
  rw [strOf_size] at ll c3 hs
  simp only [bi_eq, strOf_size, Int.toNat_natCast]
  rw [if_pos (by simp; omega), strOf_ext h.by_ hk, List.drop_zero, Nat.sub_zero, strOf_size, strOf_app, strOf_size, strOf_app, if_neg (by simp; omega), if_neg (by simp; omega), List.append_assoc]
  have hX : Odd ([x2] ++ l) := fun c X' e => by
    injection e with e1 e2
    subst e1
    exact ⟨hn, c1, c2⟩
  obtain ⟨r, p1, p2, _⟩ := h.fronts (K := K) hK (k := k) (X := [x2] ++ l) hk hX (By.app (fun x hx' => by simp at hx'; omega) lb) (by simp; omega)
  obtain ⟨q1, q2⟩ := p2 (by simp)
  unfold at_ at q1
  unfold cl_ at q2
  rw [p1, Option.bind_some, q1, q2]
  simp
theorem frQ_ok {K : Nat} (hK : 400 ≤ K) {t sg W G B : List Int} (h : Doc t sg W G B) {k : Nat} (hk : k ≤ t.length) {x2 : Int} (hx : 0 ≤ x2 ∧ x2 < 256) (s3 : ByteArray) (hs : s3.size ≤ 4611686018427387904) : frQ K (strOf t) (k : Int) x2 s3 = some true := by
  unfold frQ
  simp only [bi_eq]
  by_cases c : x2 ≥ 48
  · rw [if_pos (by simpa using c)]
    by_cases d : x2 ≤ 57
    · rw [if_pos (by simpa using d)]
    · rw [if_neg (by simpa using d)]
      exact frq_ok hK h hk hx (fun g => d g.bd.2) s3 hs
  · rw [if_neg (by simpa using c)]
    exact frq_ok hK h hk hx (fun g => c g.bd.1) s3 hs
theorem DigitsFronts {K : Nat} (hK : 40000 ≤ K) (hA : F.law02_awake K = some true) {a0 a1 a2 x1 x2 : Int} {s3 : ByteArray} (ia : I64 a0) (la : Word a1) (h1 : 0 ≤ x1 ∧ x1 < 256) (h2 : 0 ≤ x2 ∧ x2 < 256) (h3 : s3.size ≤ 4611686018427387904) : F.law02_DigitsFronts K a0 a1 a2 x1 x2 s3 = some true := by
  rw [fronts_eq, hA, Option.bind_some, bi_eq, if_neg (by decide)]
  by_cases f : Fm a0 a1 a2
  · obtain ⟨s, rfl, hs⟩ := nat_sc f
    have sb := siz_bd ia la
    obtain ⟨D, d⟩ := dn_ex (sc := (s : Int)) sb.1 (by omega) (by omega) (by omega)
    obtain ⟨B, doc, hB, hv⟩ := txt_doc ia la f d
    rw [dwrite_ok (by omega) ia la f d, Option.bind_some]
    simp only [bi_eq, strOf_size]
    have hl := doc.len
    have h0 := doc.head
    have hz := congrArg List.length doc.eq
    simp only [List.length_append] at hz
    generalize txtD (cf a0 a1) (s : Int) D = t at *
    rw [if_neg (by decide), iw (x := (t.length : Int) + 1) (by omega) (by omega), if_neg (by simp; omega), iw (x := x1) (by omega) (by omega), tm _ h1.1]
    obtain ⟨k, ek⟩ : ∃ k : Nat, x1 % ((t.length : Int) + 1) = (k : Int) := ⟨(x1 % ((t.length : Int) + 1)).toNat, by have := Int.emod_nonneg x1 (show (t.length : Int) + 1 ≠ 0 by omega); omega⟩
    have hk : k ≤ t.length := by have := Int.emod_lt_of_pos x1 (show 0 < (t.length : Int) + 1 by omega); omega
    rw [ek]
    have hQ := frQ_ok (K := K) (by omega) doc hk h2 s3 h3
    obtain ⟨r, p1, _, p2⟩ := doc.fronts (K := K) (by omega) (k := k) (X := []) hk (fun c X' e => by cases e) (fun x hx => by simp at hx) (by simp; omega)
    rw [List.append_nil] at p1
    unfold frL
    rw [hQ]
    simp only [bi_eq, strOf_size, Int.toNat_natCast]
    rw [if_pos (by simp; omega), strOf_ext doc.by_ hk, List.drop_zero, Nat.sub_zero, p1, Option.bind_some]
    have e2 := p2 rfl
    unfold cl_ at_ at e2
    rcases e2 with e2 | ⟨e2, e3⟩
    · rw [e2, if_neg (by decide)]
    · rw [e2, if_pos (by decide), if_neg (by decide)]
      by_cases z : r.snd.snd.snd.fst = (k : Int)
      · rw [if_neg (by simpa using z)]
      · rw [if_pos (by simpa using z)]
        rcases e3 with e3 | ⟨e3, e4, e5⟩
        · exact absurd e3 z
        · have hb0 := bt_strOf (l := t) (i := 0) (by omega) doc.by_
          rw [show ((0 : Nat) : Int) = 0 from rfl] at hb0
          have e0 : nth 0 t 0 = 45 := by rw [doc.eq, e5]; rfl
          rw [e3, if_neg (by decide), if_neg (by simp; omega), if_pos (by simp; omega), hb0, e0, if_neg (by decide)]
  · rw [dwrite_bad K f, Option.bind_some]
    simp only [bi_eq]
    rw [if_pos (by decide)]
    decide +kernel
open Go.ChangeShapes in
/-- How long a text is that comes fourth, behind a decimal and two bytes: no longer than the reach allows. -/
theorem str_fourth {H : Type} {enc : TypeId × Value → H} {P : Program} {w : World} {b0 : Nat} {spare : Nat → Bool} {held : Bool} {k0 k1 k2 k3 k4 : IntKind} {Vs : List Value} {x0 x1 x2 x3 x4 : Int} {s : ByteArray} {gs : List (Option (Nat × Nat))} {ts vt : List TypeId} {ds vs : List (DataW H)} {pl : List MemPlace}
    (h : RdA w [.agg [.int k0, .int k1, .int k2], .one (.int k3), .one (.int k4), .one .str] Vs [.i x0, .i x1, .i x2, .i x3, .i x4, .s s] gs) (hT : DataW.TrodAll enc P w b0 spare held ts Vs ds pl) {t : TypeId} (ht : ts[3]? = some t) (hu : P.underlying t = some .string)
    (hw : (DataW.weightsEach P (ts ++ vt) (ds ++ vs)).all (· ≤ reachBytes) = true) : s.size ≤ reachBytes := by
  obtain ⟨cs, es, h1, h2, h3, h4⟩ := h.make 0 []
  obtain ⟨a4, _⟩ := h4 ⟨fun _ => True, fun _ => True⟩ (fun q => gs.getD q none) (fun q => es[q]?) (fun i e he => ⟨trivial, by simpa using he, by simp⟩)
  have h1 : some ([PV.agg [.val (.int k0 x0), .val (.int k1 x1), .val (.int k2 x2)], .one (.val (.int k3 x3)), .one (.val (.int k4 x4)), .one (.val (.string s))], ([] : List Ent), ([] : List U)) = some (cs, es, []) := h1
  simp only [Option.some.injEq, Prod.mk.injEq] at h1
  obtain ⟨rfl, rfl, -⟩ := h1
  match Vs, a4 with
  | [V0, V1, V2, V3], h6 =>
    have h7 := h6.2.2.2.1
    match ts, hT, ht with
    | t0 :: t1 :: t2 :: t3 :: tr, hT, ht =>
      obtain rfl : t3 = t := Option.some.inj ht
      obtain ⟨_, _, d0, ds0, _, _, e1, rfl, _, _, hT⟩ := trodAll_cons hT
      obtain ⟨rfl, rfl⟩ := by simpa using e1
      obtain ⟨_, _, d1, ds1, _, _, e1, rfl, _, _, hT⟩ := trodAll_cons hT
      obtain ⟨rfl, rfl⟩ := by simpa using e1
      obtain ⟨_, _, d2, ds2, _, _, e1, rfl, _, _, hT⟩ := trodAll_cons hT
      obtain ⟨rfl, rfl⟩ := by simpa using e1
      obtain ⟨_, _, d3, ds3, _, _, e1, rfl, _, ⟨fuel, hf⟩, hT⟩ := trodAll_cons hT
      obtain ⟨rfl, rfl⟩ := by simpa using e1
      obtain ⟨s', g1, g2, _⟩ := DataW.trod_string hu hf
      obtain rfl : V3 = .string s := h7
      have g1 : [Value.string s] = [Value.string s'] := g1
      obtain rfl : s = s' := by simpa using g1
      have hd : d3 = .lit (.string s.data.toList) := congrArg Prod.fst g2
      have := sized_string hw (j := 3) (t := t3) (bytes := s.data.toList) (by simp) (by simp [hd])
      simpa using this
namespace L
theorem DigitsFronts {a0 a1 a2 x1 x2 : Int} {s3 : ByteArray} (w0 : (Lit.int .i64 a0).wf = true) (w1 : (Lit.int .u64 a1).wf = true) (w2 : (Lit.int .i64 a2).wf = true) (w3 : (Lit.int .u8 x1).wf = true) (w4 : (Lit.int .u8 x2).wf = true) (w5 : s3.size ≤ maxLen) (h : s3.size ≤ reachBytes) : F.law02_DigitsFronts 100000 a0 a1 a2 x1 x2 s3 = some true :=
  Wide.DigitsFronts (by decide) awake02 (by simp [Lit.wf, IntKind.min, IntKind.max, IntKind.signed, IntKind.bits] at w0; unfold I64; omega) (by simp [Lit.wf, IntKind.min, IntKind.max, IntKind.signed, IntKind.bits] at w1; unfold Word; omega)
    (by simp [Lit.wf, IntKind.min, IntKind.max, IntKind.signed, IntKind.bits] at w3; omega) (by simp [Lit.wf, IntKind.min, IntKind.max, IntKind.signed, IntKind.bits] at w4; omega) (Nat.le_trans h (by decide))
end L
end Go.Proofs.YtmlohnfghomghaaDoor.Wide
