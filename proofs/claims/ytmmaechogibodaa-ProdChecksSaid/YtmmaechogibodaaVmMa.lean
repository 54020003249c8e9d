/- Maps whose keys and values are made of whole numbers: what the model does at them. Conditions: none here. -/
import Derived.Test.YtmmaechogibodaaVmH
import Derived.MapKept
import Derived.WideKeyRuns
set_option linter.unusedVariables false
set_option linter.unusedSimpArgs false
namespace Go.Proofs.Ytmmaechogibodaa.Vm
open Go Go.RowKit

section
variable {P : Program} {w : World}
def eqsL : List IntKind → List Int → List Int → Nat → Bool
  | [], _, _, _ => true
  | _ :: ks, q, k, j => (nth 0 q j == nth 0 k j) && eqsL ks q k (j + 1)
theorem nth_drop_cons : ∀ (q : List Int) (j : Nat), j < q.length → q.drop j = nth 0 q j :: q.drop (j + 1)
  | [], j, h => by simp at h
  | x :: q, 0, _ => rfl
  | x :: q, j + 1, h => by simpa [nth] using nth_drop_cons q j (by simpa using h)
theorem eqsL_iff : ∀ (kk : List IntKind) (q k : List Int) (j : Nat), q.length = j + kk.length → k.length = j + kk.length → eqsL kk q k j = decide (q.drop j = k.drop j)
  | [], q, k, j, h1, h2 => by
    rw [List.drop_eq_nil_of_le (by simp at h1; omega), List.drop_eq_nil_of_le (by simp at h2; omega)]; rfl
  | a :: kk, q, k, j, h1, h2 => by
    simp only [List.length_cons] at h1 h2
    rw [eqsL, eqsL_iff kk q k (j + 1) (by omega) (by omega), nth_drop_cons q j (by omega), nth_drop_cons k j (by omega), Bool.eq_iff_iff]
    simp
theorem cut_ints : ∀ (kk : List IntKind) (q : List Int) (i j : Nat) (k : IntKind) (r : List IntKind), kk.drop j = k :: r → cut (intsV kk q i) j 1 = some [.val (.int k (nth 0 q (i + j)))]
  | [], q, i, j, k, r, h => by simp at h
  | a :: kk, q, i, 0, k, r, h => by
    obtain ⟨rfl, _⟩ := by simpa using h
    simp [intsV, cut]
  | a :: kk, q, i, j + 1, k, r, h => by
    have := cut_ints kk q (i + 1) j k r (by simpa using h)
    rw [show i + 1 + j = i + (j + 1) by omega] at this
    exact this
theorem flat_eq {kk : List IntKind} {q k : List Int} {d : Nat} : ∀ (fs : List Field) (j : Nat) (r : List IntKind), flatKs P fs j = some r → kk.drop j = r → eqFs (eqP P (d + 1)) P fs (intsV kk q 0) (intsV kk k 0) = some (eqsL r q k j)
  | [], j, r, h, _ => by
    obtain rfl := Option.some.inj h
    rfl
  | f :: fs, j, r, h, hd => by
    simp only [flatKs] at h
    split at h
    · rename_i hoff
      split at h
      · rename_i k0 hname hu hsz
        split at h
        · rename_i r' hr
          obtain rfl := Option.some.inj h
          have hdd : kk.drop (j + 1) = r' := by
            have := congrArg (List.drop 1) hd
            rw [List.drop_drop] at this
            simpa [Nat.add_comm] using this
          have c1 := cut_ints kk q 0 j k0 r' hd
          have c2 := cut_ints kk k 0 j k0 r' hd
          rw [Nat.zero_add] at c1 c2
          have ha : aggT P f.type = some false := by unfold aggT; rw [hu]
          have e1 : eqP P (d + 1) f.type (.one (.val (.int k0 (nth 0 q j)))) (.one (.val (.int k0 (nth 0 k j)))) = some (nth 0 q j == nth 0 k j) := by
            unfold eqP; simp [hu]
          simp only [eqFs, hname, hsz, hoff, c1, c2, ha, shapePV, e1, flat_eq fs (j + 1) r' hr hdd, eqsL]
        · cases h
      · cases h
    · cases h
theorem valsI_rel {F : NS} {γ : GM} {m : MM} : ∀ (kk : List IntKind) (q : List Int) (j : Nat), All2 (RelC F γ m w) (intsV kk q j) (valsI kk q j)
  | [], _, _ => trivial
  | k :: kk, q, j => ⟨rfl, valsI_rel kk q (j + 1)⟩
/-- Two keys, compared. -/
theorem key_equal {kt : TypeId} {kk : List IntKind} (hk : keyK P kt = some kk) {q k : List Int} (hq : q.length = kk.length) (hk2 : k.length = kk.length) : (Op.equal kt (valK kk q) (valK kk k)).run P w = .ok (decide (q = k)) w := by
  have hdec : eqsL kk q k 0 = decide (q = k) := by
    have := eqsL_iff kk q k 0 (by omega) (by omega)
    simpa using this
  unfold keyK at hk
  split at hk
  · rename_i kk' hm
    split at hk
    · rename_i k0 ki hu
      obtain rfl := Option.some.inj hk
      have hki : ki = k0 := by
        unfold mapK at hm
        rw [hu] at hm
        split at hm
        · rename_i k1 i h1 h2
          split at hm
          · obtain rfl := TypeDesc.int.inj (Option.some.inj h1)
            have : k0 = ki := by simpa using hm
            exact this.symm
          · cases hm
        · rename_i h1 h2; cases h1
        · cases hm
      rw [← hdec]
      subst hki
      have : Op.equal kt (valK [ki] q) (valK [ki] k) = Op.equalIn (9992 + 8) kt (.int ki (nth 0 q 0)) (.int ki (nth 0 k 0)) := rfl
      rw [this]
      have e1 : eqP P 8 kt (.one (.val (.int ki (nth 0 q 0)))) (.one (.val (.int ki (nth 0 k 0)))) = some (nth 0 q 0 == nth 0 k 0) := by
        unfold eqP; simp [hu]
      have e2 := eqP_run (P := P) (F := ⟨fun _ => True, fun _ => True⟩) (γ := fun _ => none) (m := fun _ => none) (w := w) 9992 8 kt _ _ _ e1 _ _ rfl rfl w
      rw [e2]
      simp [eqsL]
    · rename_i fs k0 k1 ks hu
      obtain rfl := Option.some.inj hk
      unfold mapK at hm
      rw [hu] at hm
      split at hm
      · rename_i h1 h2; cases h1
      · rename_i fs' i h1 h2
        obtain rfl := TypeDesc.struct.inj (Option.some.inj h1)
        split at hm
        · rename_i ks' hfl hst
          split at hm
          · obtain rfl := Option.some.inj hm
            have hf : P.fieldsOf kt = fs := by simp [Program.fieldsOf, hu]
            have e : Op.equal kt (valK (k0 :: k1 :: ks) q) (valK (k0 :: k1 :: ks) k) = Op.equalIn (9999 + 1) kt (.agg (valsI (k0 :: k1 :: ks) q 0).toArray) (.agg (valsI (k0 :: k1 :: ks) k 0).toArray) := rfl
            rw [e, run_equalIn_struct w 9999 kt _ _ (by rw [hf]; exact hu) hst, hf, ← hdec]
            exact eqFs_run (F := ⟨fun _ => True, fun _ => True⟩) (γ := fun _ => none) (m := fun _ => none) (w := w) (rec := eqP P 7) (d := 9999) (fun t p q r h V V' hV hV' W => eqP_run 9992 7 t p q r h V V' hV hV' W) (by simpa using valsI_rel _ q 0) (by simpa using valsI_rel _ k 0) fs.toList _ (flat_eq fs.toList 0 _ hfl rfl) w
          · cases hm
        · cases hm
      · cases hm
    · cases hk
  · cases hk
theorem keyK_cases {kt : TypeId} {kk : List IntKind} (h : keyK P kt = some kk) : (∃ k, kk = [k] ∧ P.underlying kt = some (.int k)) ∨ (∃ fs k0 k1 ks, kk = k0 :: k1 :: ks ∧ P.underlying kt = some (.struct fs) ∧ flatKs P fs.toList 0 = some kk ∧ P.stoodInHeld kt = false) := by
  unfold keyK at h
  split at h
  · rename_i kk' hm
    split at h
    · rename_i k0 ki hu
      obtain rfl := Option.some.inj h
      have hki : ki = k0 := by
        unfold mapK at hm
        rw [hu] at hm
        split at hm
        · rename_i k1 i h1 h2
          split at hm
          · obtain rfl := TypeDesc.int.inj (Option.some.inj h1)
            have : k0 = ki := by simpa using hm
            exact this.symm
          · cases hm
        · rename_i h1 h2; cases h1
        · cases hm
      subst hki
      exact .inl ⟨_, rfl, hu⟩
    · rename_i fs k0 k1 ks hu
      obtain rfl := Option.some.inj h
      unfold mapK at hm
      rw [hu] at hm
      split at hm
      · rename_i h1 h2; cases h1
      · rename_i fs' i h1 h2
        obtain rfl := TypeDesc.struct.inj (Option.some.inj h1)
        split at hm
        · rename_i ks' hfl hst
          split at hm
          · obtain rfl := Option.some.inj hm
            exact .inr ⟨_, k0, k1, ks, rfl, hu, hfl, hst⟩
          · cases hm
        · cases hm
      · cases hm
    · cases h
  · cases h
/-- A key may be hashed. -/
theorem check_flat {em : Bool} {n : Nat} {kk : List IntKind} {q : List Int} : ∀ (fs : List Field) (j : Nat) (r : List IntKind), flatKs P fs j = some r → kk.drop j = r →
    (forIn (m := Sem) fs PUnit.unit fun f _ => do
      if f.name ≠ "_" then Instr.checkKey em (n + 1) f.type (← part f.type (valsI kk q 0).toArray f.offset)
      pure (ForInStep.yield PUnit.unit)).run P w = .ok PUnit.unit w
  | [], j, r, h, _ => by simp
  | f :: fs, j, r, h, hd => by
    simp only [flatKs] at h
    split at h
    · rename_i hoff
      split at h
      · rename_i k0 hname hu hsz
        split at h
        · rename_i r' hr
          obtain rfl := Option.some.inj h
          have hdd : kk.drop (j + 1) = r' := by
            have := congrArg (List.drop 1) hd
            rw [List.drop_drop] at this
            simpa [Nat.add_comm] using this
          have c1 := cut_ints kk q 0 j k0 r' hd
          rw [Nat.zero_add] at c1
          have ha : aggT P f.type = some false := by unfold aggT; rw [hu]
          have hne : f.name ≠ "_" := by simpa using hname
          obtain ⟨V, h1, h2⟩ := part_run (P := P) (F := ⟨fun _ => True, fun _ => True⟩) (γ := fun _ => none) (m := fun _ => none) (w := w) (t := f.type) (cs := (valsI kk q 0).toArray) (off := f.offset) (n := 1) (l := intsV kk q 0) (p := .one (.val (.int k0 (nth 0 q j)))) hsz (by simpa using valsI_rel kk q 0) (by rw [hoff]; exact c1) (by rw [ha]; rfl) w
          obtain rfl : V = .int k0 (nth 0 q j) := h2
          have h3 : (Instr.checkKey em (n + 1) f.type (.int k0 (nth 0 q j))).run P w = .ok () w := by
            unfold Instr.checkKey
            simp [run_underlying hu]
          have ih := check_flat (em := em) (n := n) (kk := kk) (q := q) fs (j + 1) r' hr hdd
          simp only [List.forIn_cons, Sem.run_bind, if_pos hne, h1, h3, Result.andThen_ok, Sem.run_pure]
          exact ih
        · cases h
      · cases h
    · cases h
theorem check_ok {kt : TypeId} {kk : List IntKind} (h : keyK P kt = some kk) (em : Bool) (q : List Int) : (Instr.checkKey em 10000 kt (valK kk q)).run P w = .ok () w := by
  rcases keyK_cases h with ⟨k, rfl, hu⟩ | ⟨fs, k0, k1, ks, rfl, hu, hfl, _⟩
  · show (Instr.checkKey em (9999 + 1) kt (.int k (nth 0 q 0))).run P w = _
    unfold Instr.checkKey
    simp [run_underlying hu]
  · have e := check_flat (P := P) (w := w) (em := em) (n := 9998) (kk := k0 :: k1 :: ks) (q := q) fs.toList 0 _ hfl rfl
    show (Instr.checkKey em (9999 + 1) kt (.agg (valsI (k0 :: k1 :: ks) q 0).toArray)).run P w = _
    unfold Instr.checkKey
    simp only [Sem.run_bind, run_underlying hu, Result.andThen_ok]
    rw [← Array.forIn_toList, e]
    rfl
/-- Where a key is found. -/
theorem ask_ok {kt : TypeId} {kk vk : List IntKind} (hk : keyK P kt = some kk) {q : List Int} (hq : q.length = kk.length) : ∀ (es : List (List Int × List Int)) (l : List MapEntry) (i : Nat), entOk kk vk es l →
    (∃ j x e, (Instr.findAsking kt (valK kk q) l i).run P w = .ok (some (i + j, valK vk x)) w ∧ mfind es q = some x ∧ l[j]? = some e ∧ e.key = valK kk q ∧ ∀ y, entOk kk vk (mset es q y) (l.modify j fun e => { e with key := valK kk q, val := valK vk y })) ∨
    ((Instr.findAsking kt (valK kk q) l i).run P w = .ok none w ∧ mfind es q = none ∧ ∀ y b, entOk kk vk (mset es q y) (l ++ [⟨valK kk q, valK vk y, b⟩]))
  | [], [], i, _ => .inr ⟨by simp [Instr.findAsking], rfl, fun y b => ⟨rfl, rfl, hq, trivial⟩⟩
  | (k, v) :: es, e :: l, i, h => by
    obtain ⟨h1, h2, h3, h4⟩ := h
    have he := key_equal (w := w) hk hq h3
    by_cases c : k = q
    · subst c
      refine .inl ⟨0, v, e, ?_, by simp [mfind], rfl, h1, fun y => ?_⟩
      · simp only [Instr.findAsking, Sem.run_bind, h1, he, Result.andThen_ok, h2]
        simp
      · simp only [mset, if_true, List.modify_zero_cons]
        exact ⟨rfl, rfl, h3, h4⟩
    · have hne : decide (q = k) = false := decide_eq_false fun e => c e.symm
      rcases ask_ok hk hq es l (i + 1) h4 with ⟨j, x, e', g1, g2, g3, g4, g5⟩ | ⟨g1, g2, g3⟩
      · refine .inl ⟨j + 1, x, e', ?_, by simp [mfind, c, g2], by simpa using g3, g4, fun y => ?_⟩
        · simp only [Instr.findAsking, Sem.run_bind, h1, he, Result.andThen_ok, hne]
          simp only [Bool.false_eq_true, if_false, g1]
          rw [show i + 1 + j = i + (j + 1) by omega]
        · simp only [mset, if_neg c, List.modify_succ_cons]
          exact ⟨h1, h2, h3, g5 y⟩
      · refine .inr ⟨?_, by simp [mfind, c, g2], fun y b => ?_⟩
        · simp only [Instr.findAsking, Sem.run_bind, h1, he, Result.andThen_ok, hne]
          simp only [Bool.false_eq_true, if_false, g1]
        · simp only [mset, if_neg c, List.cons_append]
          exact ⟨h1, h2, h3, g3 y b⟩
theorem find_ok {kt : TypeId} {kk vk : List IntKind} (hk : keyK P kt = some kk) {q : List Int} (hq : q.length = kk.length) {es : List (List Int × List Int)} {l : List MapEntry} (he : entOk kk vk es l) : (Instr.findKey kt (valK kk q) l).run P w = (Instr.findAsking kt (valK kk q) l 0).run P w := by
  rcases keyK_cases hk with ⟨k, rfl, hu⟩ | ⟨fs, k0, k1, ks, rfl, hu, hfl, _⟩
  · have now : ∀ (es : List (List Int × List Int)) (l : List MapEntry) (i : Nat), entOk [k] vk es l → ∃ r, Instr.findNow (.int k) (valK [k] q) l i = some r ∧ (Instr.findAsking kt (valK [k] q) l i).run P w = .ok r w := by
      intro es
      induction es with
      | nil =>
        intro l i h
        cases l with
        | nil => exact ⟨none, rfl, by simp [Instr.findAsking]⟩
        | cons e l => exact h.elim
      | cons x es ih =>
        intro l i h
        cases l with
        | nil => exact h.elim
        | cons e l =>
          obtain ⟨h1, h2, h3, h4⟩ := h
          have heq := key_equal (w := w) hk hq h3
          obtain ⟨r, g1, g2⟩ := ih l (i + 1) h4
          have hs : Instr.sameNow (.int k) (valK [k] q) e.key = some (decide (q = x.1)) := by
            rw [h1]
            have e1 := eqsL_iff [k] q x.1 0 (by simpa using hq) (by simpa using h3)
            simp only [eqsL, Bool.and_true, List.drop_zero] at e1
            simp [valK, Instr.sameNow, e1]
          by_cases c : q = x.1
          · refine ⟨some (i, e.val), ?_, ?_⟩
            · simp only [Instr.findNow, hs, decide_eq_true c]
            · simp only [Instr.findAsking, Sem.run_bind, h1, heq, Result.andThen_ok, decide_eq_true c]
              simp
          · refine ⟨r, ?_, ?_⟩
            · simp only [Instr.findNow, hs, decide_eq_false c, g1]
            · simp only [Instr.findAsking, Sem.run_bind, h1, heq, Result.andThen_ok, decide_eq_false c]
              simp only [Bool.false_eq_true, if_false, g2]
    obtain ⟨r, g1, g2⟩ := now es l 0 he
    rw [g2]
    simp [Instr.findKey, run_underlying hu, g1]
  · exact run_findKey_eq w (by rw [hu]) _ _
theorem same_self (kk : List IntKind) (q : List Int) : Instr.sameBits 10000 (valK kk q) (valK kk q) = true := by
  have one : ∀ (n : Nat) (k : IntKind) (x : Int), Instr.sameBits n (.int k x) (.int k x) = true := fun n k x => by
    cases n <;> simp [Instr.sameBits]
  have all : ∀ (n : Nat) (kk : List IntKind) (j : Nat), ((valsI kk q j).zip (valsI kk q j)).all (fun (x, y) => Instr.sameBits n x y) = true := by
    intro n kk
    induction kk with
    | nil => intro j; rfl
    | cons k kk ih => intro j; simp only [valsI, List.zip_cons_cons, List.all_cons, one, ih (j + 1), Bool.and_self]
  unfold valK
  split
  · exact one _ _ _
  · show (_ == _ && _) = true
    simp [all]
theorem nth_repz : ∀ (m j : Nat), nth (0 : Int) (rep m 0) j = 0
  | 0, _ => rfl
  | m + 1, 0 => rfl
  | m + 1, j + 1 => nth_repz m j
theorem zeroKK_spec {t : TypeId} {ks : List IntKind} (h : zeroKK P t ks = true) : (zeroValue t).run P w = .ok (valK ks (rep (len ks) 0)) w := by
  unfold zeroKK at h
  split at h
  · rename_i i hi
    split at h
    · rename_i k z k' hz
      obtain ⟨rfl, rfl⟩ : k = k' ∧ z = 0 := by simpa using h
      simp [zeroValue, sInfo hi, hz, valK, rep, len, nth]
    · rename_i cs k k' r hz
      split at h
      · rename_i ks' hk0
        have hks : k :: k' :: r = ks' := by simpa using h
        subst hks
        have hv := kinds0_spec _ _ hk0
        have e : ∀ (kk : List IntKind) (m j : Nat), valsI kk (rep m (0 : Int)) j = kk.map (.int · 0) := by
          intro kk m
          induction kk with
          | nil => intro j; rfl
          | cons a kk ih =>
            intro j
            have := nth_repz m j
            simp only [valsI, ih (j + 1), this, List.map_cons]
        have hcs : cs = (valsI (k :: k' :: r) (rep (len (k :: k' :: r)) 0) 0).toArray := by
          rw [e, ← hv]
        simp [zeroValue, sInfo hi, hz, valK, hcs]
      · cases h
    · cases h
  · cases h
end
section
variable {P : Program} {A : Ctx} {w0 : World} {F : NS} {γ : GM} {s : St} {a : Act} {w : World}
theorem intsOf_len : ∀ (ks : List IntKind) (l : List CV) (r : List Int), intsOf ks l = some r → r.length = ks.length
  | [], [], r, h => by obtain rfl := Option.some.inj h; rfl
  | [], c :: l, r, h => by simp [intsOf] at h
  | k :: ks, [], r, h => by simp [intsOf] at h
  | k :: ks, c :: l, r, h => by
    cases c with
    | val v =>
      cases v with
      | int k' x =>
        simp only [intsOf] at h
        split at h
        · split at h
          · rename_i r' hr
            obtain rfl := Option.some.inj h
            simp [intsOf_len ks l r' hr]
          · cases h
        · cases h
      | _ => simp [intsOf] at h
    | _ => simp [intsOf] at h
theorem intsOf_vals (ks : List IntKind) (l : List CV) (r : List Int) (h : intsOf ks l = some r) : l = intsV ks r 0 ∧ r.length = ks.length := ⟨(intsV_of ks l r [] h).symm, intsOf_len ks l r h⟩
theorem all2_ints {F : NS} {γ : GM} {m : MM} : ∀ (kk : List IntKind) (q : List Int) (j : Nat) (l : List Value), All2 (RelC F γ m w) (intsV kk q j) l → l = valsI kk q j
  | [], _, _, [], _ => rfl
  | k :: kk, q, j, v :: l, h => by
    obtain ⟨h1, h2⟩ := h
    have h1 : v = .int k (nth 0 q j) := h1
    rw [h1, all2_ints kk q (j + 1) l h2]
    rfl
theorem keyOfP_spec {m : MM} {kk : List IntKind} {kp : PV} {q : List Int} (h : keyOfP kk kp = some q) {V : Value} (hV : RelP F γ m w kp V) : V = valK kk q ∧ q.length = kk.length := by
  unfold keyOfP at h
  split at h
  · rename_i c
    split at h
    · rename_i k
      obtain ⟨e1, e2⟩ := intsOf_vals _ _ _ h
      have hc : c = .val (.int k (nth 0 q 0)) := by simpa [intsV] using e1
      subst hc
      exact ⟨hV, e2⟩
    · cases h
  · rename_i l
    split at h
    · rename_i k k' r
      obtain ⟨e1, e2⟩ := intsOf_vals _ _ _ h
      subst e1
      obtain ⟨cs, rfl, h1⟩ := hV
      have := all2_ints _ _ _ _ h1
      refine ⟨?_, e2⟩
      show _ = Value.agg (valsI (k :: k' :: r) q 0).toArray
      rw [← this]
    · cases h
  · cases h
theorem pvK_rel {m : MM} (vk : List IntKind) (x : List Int) : RelP F γ m w (pvK vk x) (valK vk x) := by
  match vk with
  | [] => exact ⟨_, rfl, trivial⟩
  | [k] => exact rfl
  | k :: k' :: r => exact ⟨_, rfl, by simpa using valsI_rel _ x 0⟩
theorem born_modify {l : List MapEntry} {clock : Nat} (h : bornOk l clock) {j : Nat} {k v : Value} : bornOk (l.modify j fun e => { e with key := k, val := v }) clock := by
  have hm : (l.modify j fun e => { e with key := k, val := v }).map (·.born) = l.map (·.born) := by
    apply List.ext_getElem?
    intro i
    simp only [List.getElem?_map, List.getElem?_modify]
    by_cases hi : j = i
    · simp [hi]; cases l[i]? <;> rfl
    · simp [hi]
  refine ⟨fun e he => ?_, by rw [hm]; exact h.2⟩
  have : e.born ∈ l.map (·.born) := by rw [← hm]; exact List.mem_map_of_mem he
  obtain ⟨x, hx, e1⟩ := List.mem_map.1 this
  rw [← e1]; exact h.1 x hx
theorem born_push {l : List MapEntry} {clock : Nat} (h : bornOk l clock) {k v : Value} : bornOk (l ++ [⟨k, v, clock⟩]) (clock + 1) := by
  refine ⟨fun e he => ?_, ?_⟩
  · rcases List.mem_append.1 he with he | he
    · have := h.1 e he; omega
    · simp only [List.mem_singleton] at he; subst he; show clock < clock + 1; omega
  · rw [List.map_append, List.nodup_append]
    refine ⟨h.2, by simp, fun a ha b hb => ?_⟩
    obtain ⟨x, hx, rfl⟩ := List.mem_map.1 ha
    simp only [List.map_cons, List.map_nil, List.mem_singleton] at hb
    have := h.1 x hx
    omega
theorem map_at (R : Rel A w0 F γ s a w) {x : Operand} {b : Nat} (hx : s.ev x = .pv (.one (.mapr b))) {o : Bool} {kk vk : List IntKind} {es : List (List Int × List Int)} (hm : s.mem b = some ⟨o, .map kk vk es⟩) :
    ∃ g base ents clock, a.eval x = .map (some g) ∧ γ b = some (g, base) ∧ w.heap[g]? = some (.map ents clock) ∧ mapOk kk vk es ents clock := by
  have h := R.ev x
  rw [hx] at h
  obtain ⟨_, ⟨g, base, h1, h2⟩, _⟩ := h
  obtain ⟨ents, clock, h3, h4⟩ := R.maps b o kk vk es g base hm h1
  exact ⟨g, base, ents, clock, h2, h1, h3, h4⟩
theorem ok_lookup (R : Rel A w0 F γ s a w) {nid : Nat} {o : Oper} {out : Out} {t : TypeId} {x ix : Operand} {ok : Bool} (ho : o.op = .lookup t x ix ok) (h : (exLookup P s.mem t (s.ev x) (s.ev ix) ok).den = some out) : Sim P A w0 F γ nid s o out a w := by
  unfold exLookup at h
  split at h
  · rename_i kt vt b kp hu hx hix
    split at h
    · rename_i ow kk vk es hm
      split at h
      · rename_i hc
        obtain ⟨c1, c2, c3⟩ := hc
        split at h
        · rename_i q hq
          obtain ⟨g, base, ents, clock, e1, e2, e3, e4, e5⟩ := map_at R hx hm
          have hV := R.ev ix
          rw [hix] at hV
          obtain ⟨v1, v2⟩ := keyOfP_spec hq hV
          have hz := zeroKK_spec (w := w) c3
          have hck := check_ok (w := w) c1 ents.isEmpty q
          have hfd := find_ok (w := w) c1 v2 e4
          have run : ∃ v hs, v = valK vk (mget es q (rep (len vk) 0)) ∧ hs = mhas es q ∧ (Instr.lookup t (.map (some g)) (valK kk q) ok).run P w = .ok (if ok then .tuple #[v, .bool hs] else v) w := by
            rcases ask_ok (w := w) c1 v2 es ents.toList 0 e4 with ⟨j, y, e, g1, g2, g3, g4, g5⟩ | ⟨g1, g2, g3⟩
            · refine ⟨valK vk y, true, by simp [mget, g2], by simp [mhas, g2], ?_⟩
              rw [g1] at hfd
              simp [Instr.lookup, run_underlying hu, MapKept.run_getObj_map e3, hck, hfd]
            · refine ⟨valK vk (rep (len vk) 0), false, by simp [mget, g2], by simp [mhas, g2], ?_⟩
              rw [g1] at hfd
              simp [Instr.lookup, run_underlying hu, MapKept.run_getObj_map e3, hck, hfd, hz]
          obtain ⟨v, hs, rfl, rfl, hrun⟩ := run
          split at h
          · obtain rfl := Option.some.inj h
            refine Sim.look R (V := .tuple #[valK vk (mget es q (rep (len vk) 0)), .bool (mhas es q)]) ?_ ⟨_, rfl, pvK_rel _ _, rfl, trivial⟩
            simp only [execOp, ho, e1, v1]
            simp [hrun]
          · obtain rfl := den_ret1 h
            refine Sim.look R (V := valK vk (mget es q (rep (len vk) 0))) ?_ (pvK_rel _ _)
            simp only [execOp, ho, e1, v1]
            simp [hrun]
        · exact (den_fail h).elim
      · exact (den_fail h).elim
    · exact (den_fail h).elim
  · exact (den_fail h).elim
theorem ok_makeMap (R : Rel A w0 F γ s a w) {nid : Nat} (hf : ∀ q, nid ≤ q → q < nid + 64 → ¬ F q) {o : Oper} {out : Out} {t : TypeId} (ho : o.op = .makeMap t none) (h : (exMakeMap P nid t).den = some out) : Sim P A w0 F γ nid s o out a w := by
  have hfn : ∀ b, F b → b ≠ nid := fun b hb e => hf nid (Nat.le_refl _) (by omega) (e ▸ hb)
  unfold exMakeMap at h
  split at h
  · split at h
    · rename_i kk vk h1 h2
      obtain rfl := Option.some.inj h
      have hB : RelB (addN F nid) (addG γ nid w.heap.size 0) (updM s.mem [(nid, some ⟨true, .map kk vk []⟩)]) (w.alloc (.map #[] 0)) nid (.map kk vk []) := fun i j c hc => by simp [Blk.at] at hc
      refine Sim.value (V := .map (some w.heap.size)) (w' := w.alloc (.map #[] 0)) ?_ (R.put (o := ⟨.pv (.one (.mapr nid)), [(nid, some ⟨true, .map kk vk []⟩)]⟩) (R.mnew hfn _ _) ⟨.inr rfl, ⟨w.heap.size, 0, by simp [addG], rfl⟩, fun e he => by
        simp [updM] at he
        rw [← he]; rfl⟩ (R.toMem.new hfn (fun cs t h => by cases h) (fun kk' vk' es h => by
          simp only [Blk.map.injEq] at h
          obtain ⟨rfl, rfl, rfl⟩ := h
          exact ⟨#[], 0, rfl, trivial, by simp [bornOk]⟩) hB)) (fun b hb => addN_bd b hb) (addN_ext hfn _ _)
      simp [execOp, ho, Instr.makeMap]
    · exact (den_fail h).elim
  · exact (den_fail h).elim
theorem ok_mapUpdate (R : Rel A w0 F γ s a w) {nid : Nat} {o : Oper} {out : Out} {t : TypeId} {x ix v : Operand} (ho : o.op = .mapUpdate t x ix v) (h : (exMapUpdate P s.mem t (s.ev x) (s.ev ix) (s.ev v)).den = some out) : Sim P A w0 F γ nid s o out a w := by
  unfold exMapUpdate at h
  split at h
  · rename_i kt vt b kp vp hu hx hix hv
    split at h
    · rename_i kk vk es hm
      split at h
      · rename_i hc
        obtain ⟨c1, c2⟩ := hc
        split at h
        · rename_i q r hq hr
          obtain rfl := Option.some.inj h
          obtain ⟨g, base, ents, clock, e1, e2, e3, e4, e5⟩ := map_at R hx hm
          have hV := R.ev ix
          rw [hix] at hV
          obtain ⟨v1, v2⟩ := keyOfP_spec hq hV
          have hW := R.ev v
          rw [hv] at hW
          obtain ⟨u1, u2⟩ := keyOfP_spec hr hW
          have hck := check_ok (w := w) c1 false q
          have hfd := find_ok (w := w) c1 v2 e4
          have run : ∃ ents' clock', (Instr.mapUpdate t (.map (some g)) (valK kk q) (valK vk r)).run P w = .ok () { w with heap := w.heap.setIfInBounds g (.map ents' clock') } ∧ mapOk kk vk (mset es q r) ents' clock' := by
            rcases ask_ok (w := w) c1 v2 es ents.toList 0 e4 with ⟨j, y, e, g1, g2, g3, g4, g5⟩ | ⟨g1, g2, g3⟩
            · rw [g1, Nat.zero_add] at hfd
              have g3' : ents[j]? = some e := by simpa using g3
              refine ⟨ents.modify j fun e => { e with key := valK kk q, val := valK vk r }, clock, ?_, by simpa using g5 r, by rw [Array.toList_modify]; exact born_modify e5⟩
              simp [Instr.mapUpdate, run_underlying hu, MapKept.run_getObj_map e3, hck, hfd, g3', g4, Instr.keyThatStays, same_self, MapKept.run_setObj_map _ e3]
            · rw [g1] at hfd
              refine ⟨ents.push ⟨valK kk q, valK vk r, clock⟩, clock + 1, ?_, by simpa using g3 r clock, by rw [Array.toList_push]; exact born_push e5⟩
              simp [Instr.mapUpdate, run_underlying hu, MapKept.run_getObj_map e3, hck, hfd, MapKept.run_setObj_map _ e3]
          obtain ⟨ents', clock', hrun, hent⟩ := run
          have hlt : g < w.heap.size := (Array.getElem?_eq_some_iff.1 e3).1
          have hnew : ({ w with heap := w.heap.setIfInBounds g (.map ents' clock') } : World).heap[g]? = some (.map ents' clock') := by simp [hlt]
          have hoth : ∀ k, k ≠ g → ({ w with heap := w.heap.setIfInBounds g (.map ents' clock') } : World).heap[k]? = w.heap[k]? := fun k hk => by simp [Ne.symm hk]
          obtain ⟨ms, M⟩ := R.toMem.write (blk' := .map kk vk (mset es q r)) (w' := { w with heap := w.heap.setIfInBounds g (.map ents' clock') }) hm rfl e2 ⟨rfl, rfl, rfl, by simp, hoth⟩ (fun k c t' hk => by
            by_cases e : k = g
            · subst e; rw [e3] at hk; cases hk
            · exact ⟨c, t', (hoth k e).trans hk, Nat.le_refl _⟩) rfl rfl rfl (fun i n hp => hp) (fun cs t' hx => by rw [hnew] at hx; cases hx) (fun kk' vk' es' h => by
              simp only [Blk.map.injEq] at h
              obtain ⟨rfl, rfl, rfl⟩ := h
              exact ⟨ents', clock', hnew, hent⟩) (fun ms i j c hc => by simp [Blk.at] at hc)
          refine Sim.skip ?_ (R.put (o := ⟨undefS, [(b, some ⟨true, .map kk vk (mset es q r)⟩)]⟩) ms rfl M) (fun b hb => .inl hb) (Ext.refl F γ)
          simp only [execOp, ho, e1, v1, u1]
          simp [hrun]
        · exact (den_fail h).elim
      · exact (den_fail h).elim
    · exact (den_fail h).elim
  · exact (den_fail h).elim
end
end Go.Proofs.Ytmmaechogibodaa.Vm
