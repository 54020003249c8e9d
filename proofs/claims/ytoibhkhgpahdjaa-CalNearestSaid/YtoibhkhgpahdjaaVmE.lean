/- Each operation of the abstract interpreter is what the model does: stores, structs built. Conditions: none here. -/
import Derived.Test.YtoibhkhgpahdjaaVmD
set_option linter.unusedVariables false
set_option linter.unusedSimpArgs false
namespace Go.Proofs.Ytoibhkhgpahdjaa.Vm
open Go Go.RowKit

section
variable {P : Program} {A : Nat → Prop} {w0 : World} {F : Nat → Prop} {γ : GM} {s : St} {a : Act} {w : World}
theorem intsV_len : ∀ (ks : List IntKind) (r : List Int) (j : Nat), (intsV ks r j).length = ks.length
  | [], _, _ => rfl
  | k :: ks, r, j => by simp [intsV, intsV_len ks]
theorem intsV_of : ∀ (ks : List IntKind) (l : List CV) (r pre : List Int), intsOf ks l = some r → intsV ks (pre ++ r) pre.length = l
  | [], [], r, pre, h => rfl
  | k :: ks, c :: l, r, pre, h => by
    cases c with
    | val v =>
      cases v with
      | int k' x =>
        simp only [intsOf] at h
        split at h
        · rename_i e; subst e
          split at h
          · rename_i r' hr
            obtain rfl := Option.some.inj h
            have ih := intsV_of ks l r' (pre ++ [x]) hr
            simp only [List.append_assoc, List.singleton_append, List.length_append, List.length_singleton] at ih
            simp only [intsV, ih, nth_eq]
            congr 3
            simp
          · cases h
        · cases h
      | _ => simp [intsOf] at h
    | _ => simp [intsOf] at h
  | [], _ :: _, r, pre, h => by simp [intsOf] at h
  | _ :: _, [], r, pre, h => by simp [intsOf] at h
theorem set_at {blk q : Blk} {i j nn : Nat} {vs : List CV} (hp : ptrOk blk i nn) (h : blk.set i j vs = some q) (hne : vs.length ≠ 0) :
    q.len = blk.len ∧ q.n = blk.n ∧ (∀ i n, ptrOk blk i n → ptrOk q i n) ∧ (∀ k, k < vs.length → (blk.at i (j + k)).isSome = true) ∧
    ∀ i' j' c, q.at i' j' = some c → (i' = i ∧ j ≤ j' ∧ j' < j + vs.length ∧ vs[j' - j]? = some c) ∨
      (¬ (i' = i ∧ j ≤ j' ∧ j' < j + vs.length) ∧ blk.at i' j' = some c ∧ ∀ k, k < vs.length → i' * blk.n + j' ≠ i * blk.n + (j + k)) := by
  cases blk with
  | cells l =>
    obtain ⟨rfl, rfl⟩ := hp
    simp only [Blk.set] at h
    split at h
    · rename_i q' hq
      obtain rfl := Option.some.inj h
      obtain ⟨h1, h2, h3⟩ := over_spec l j vs q' hq
      have h2 : j + vs.length ≤ l.length := by rcases h2 with rfl | h2 <;> simp at * <;> omega
      refine ⟨rfl, rfl, fun _ _ h => h, fun k hk => ?_, fun i' j' c hc => ?_⟩
      · simp [Blk.at]; omega
      · simp only [Blk.at] at hc ⊢
        split at hc
        · rename_i hi; subst hi
          rw [h3 j'] at hc
          split at hc
          · rename_i hj; exact .inl ⟨rfl, hj.1, hj.2, hc⟩
          · rename_i hj; exact .inr ⟨by simp; omega, by simpa using hc, fun k hk => by simp [Blk.n]; omega⟩
        · cases hc
    · cases h
  | row k xs =>
    obtain ⟨rfl, hi⟩ := hp
    simp only [Blk.set] at h
    split at h
    · rename_i x hx
      obtain rfl := Option.some.inj h
      have hv := intsV_of [k] vs [x] [] hx
      simp only [intsV, List.nil_append, List.length_nil, nth] at hv
      subst hv
      refine ⟨by simp [Blk.len], rfl, fun i' n' h' => ⟨h'.1, by simpa using h'.2⟩, fun q hq => ?_, fun i' j' c hc => ?_⟩
      · simp at hq; subst hq; simp [Blk.at, hi]
      · simp only [Blk.at, List.length_set, nth_eq] at hc ⊢
        split at hc
        · rename_i hj
          obtain ⟨rfl, hj⟩ := hj
          by_cases e : i' = i
          · subst e
            left
            refine ⟨rfl, Nat.le_refl _, by simp, ?_⟩
            simp [hj] at hc ⊢; exact hc
          · right
            refine ⟨fun h => e h.1, ?_, fun q hq => by simp at hq; simp [Blk.n]; omega⟩
            rw [if_pos ⟨rfl, hj⟩]
            simpa [List.getD_eq_getElem?_getD, List.getElem?_set, Ne.symm e, e] using hc
        · cases hc
    · cases h
  | recs ks xs =>
    obtain ⟨rfl, hi⟩ := hp
    simp only [Blk.set] at h
    split at h
    · rename_i kk hkk
      split at h
      · rename_i r hr
        split at h
        · rename_i q' hq
          split at h
          · rename_i r' hr'
            obtain rfl := Option.some.inj h
            have hv := intsV_of ks q' r' [] hr'
            simp only [List.nil_append, List.length_nil] at hv
            obtain ⟨h1, h2, h3⟩ := over_spec _ j vs q' hq
            rw [intsV_len] at h1 h2
            have h2 : j + vs.length ≤ ks.length := by rcases h2 with rfl | h2 <;> simp at * <;> omega
            have inj : ∀ i1 j1 i2 j2 : Nat, j1 < ks.length → j2 < ks.length → i1 * ks.length + j1 = i2 * ks.length + j2 → i1 = i2 ∧ j1 = j2 := by
              intro i1 j1 i2 j2 a1 a2 e
              have e1 : (i1 * ks.length + j1) / ks.length = i1 := by rw [Nat.mul_comm, Nat.mul_add_div (by omega), Nat.div_eq_of_lt a1]; rfl
              have e2 : (i2 * ks.length + j2) / ks.length = i2 := by rw [Nat.mul_comm, Nat.mul_add_div (by omega), Nat.div_eq_of_lt a2]; rfl
              have : i1 = i2 := by rw [← e1, ← e2, e]
              subst this
              exact ⟨rfl, by omega⟩
            refine ⟨by simp [Blk.len], rfl, fun i' n' h' => ⟨h'.1, by simpa using h'.2⟩, fun q hq => ?_, fun i' j' c hc => ?_⟩
            · simp [Blk.at, hi, intsV_len]; omega
            · simp only [Blk.at, List.length_set, nth_eq] at hc ⊢
              split at hc
              · rename_i hj
                by_cases e : i' = i
                · subst e
                  simp only [List.getD_eq_getElem?_getD, List.getElem?_set, if_true, hi, Option.getD_some] at hc
                  rw [hv, h3 j'] at hc
                  split at hc
                  · rename_i hj'; exact .inl ⟨rfl, hj'.1, hj'.2, hc⟩
                  · rename_i hj'
                    rw [nth_eq] at hc
                    refine .inr ⟨by simp; omega, by rw [if_pos hj]; exact hc, fun k hk e => ?_⟩
                    simp only [Blk.n, len_eq] at e
                    have := (List.getElem?_eq_some_iff.1 hc).1
                    rw [intsV_len] at this
                    have := (inj _ _ _ _ this (by omega) e).2
                    omega
                · right
                  have hc' : (intsV ks (xs.getD i' []) 0)[j']? = some c := by simpa [List.getD_eq_getElem?_getD, List.getElem?_set, Ne.symm e, e] using hc
                  refine ⟨fun h => e h.1, by rw [if_pos hj]; exact hc', fun k hk e' => ?_⟩
                  simp only [Blk.n, len_eq] at e'
                  have := (List.getElem?_eq_some_iff.1 hc').1
                  rw [intsV_len] at this
                  exact e (inj _ _ _ _ this (by omega) e').1
              · cases hc
          · cases h
        · cases h
      · cases h
    · cases h
theorem below_setRow {B : Nat} {w : World} {g : Nat} (h : B ≤ g) (cs : Array Value) : Below B w (w.setRow g cs) :=
  ⟨rfl, rfl, rfl, by simp, fun k hk => setRow_other w g k cs (by omega)⟩
theorem Bel.setRow {B : Nat} {a w : World} (h : Bel B a w) {g : Nat} (hB : B ≤ g) {old : Array Value} {t : TF} (hg : w.heap[g]? = some (.cells old t.1 t.2)) (cs : Array Value) : Bel B a (w.setRow g cs) :=
  ⟨h.toBelow.trans (below_setRow hB cs), fun k c t' fr hk hx => by
    by_cases e : k = g
    · subst e
      rw [setRow_heap w k old cs t.1 t.2 hg] at hx
      have := h.fresh k old t.1 t.2 hk hg
      simp only [Option.some.injEq, Obj.cells.injEq] at hx
      rw [← hx.2.2, this]
    · rw [setRow_other w g k cs e] at hx; exact h.fresh k c t' fr hk hx⟩
theorem wstep_setRow {w : World} {g : Nat} {old cs : Array Value} {t : TF} (hg : w.heap[g]? = some (.cells old t.1 t.2)) (hs : cs.size = old.size) : WStep w (w.setRow g cs) := fun k c t' h => by
  by_cases e : k = g
  · subst e
    rw [hg] at h
    simp only [Option.some.injEq, Obj.cells.injEq] at h
    obtain ⟨rfl, _, _⟩ := h
    exact ⟨cs, t, setRow_heap w k old cs t.1 t.2 hg, by omega⟩
  · exact ⟨c, t', (setRow_other w g k cs e).trans h, Nat.le_refl _⟩
theorem Rel.store (R : Rel A w0 F γ s a w) {b g base : Nat} {e : Ent} {cs cs' : Array Value} {t : TF} {blk' : Blk} (he : s.mem b = some e) (ho : e.own = true) (hγ : γ b = some (g, base)) (hg : w.heap[g]? = some (.cells cs t.1 t.2))
    (hsz : cs'.size = cs.size) (hlen : blk'.len = e.blk.len) (hn : blk'.n = e.blk.n) (hp : ∀ i n, ptrOk e.blk i n → ptrOk blk' i n)
    (hB : ∀ i j c, blk'.at i j = some c → ∃ V, cs'[base + (i * blk'.n + j)]? = some V ∧ RelC F γ s.mem w c V) (dst : Option Tmp) :
    Rel A w0 F γ (s.app dst ⟨undefS, [(b, some ⟨true, blk'⟩)]⟩) (a.put dst undef) (w.setRow g cs') := by
  have hm : ∀ q x, updM s.mem [(b, some ⟨true, blk'⟩)] q = some x → ∃ y, s.mem q = some y ∧ y.own = x.own ∧ y.blk.len = x.blk.len ∧ y.blk.n = x.blk.n ∧ (∀ i n, ptrOk y.blk i n → ptrOk x.blk i n) ∧ (q ≠ b → y = x) := by
    intro q x hx
    rw [updM_one] at hx
    by_cases hq : q = b
    · subst hq; rw [if_pos rfl] at hx; obtain rfl := Option.some.inj hx; exact ⟨e, he, ho, hlen.symm, hn.symm, hp, fun h => absurd rfl h⟩
    · rw [if_neg hq] at hx; exact ⟨x, hx, rfl, rfl, rfl, fun _ _ h => h, fun _ => rfl⟩
  have ms : MStep F γ s.mem w F γ (updM s.mem [(b, some ⟨true, blk'⟩)]) (w.setRow g cs') :=
    ⟨fun _ h => h, fun _ _ => rfl, fun q x _ hx => let ⟨y, h1, _, h3, h4, h5, _⟩ := hm q x hx; ⟨y, h1, h3, h4, h5⟩, wstep_setRow hg hsz⟩
  have hown := R.own b e g base he ho hγ
  refine R.put (o := ⟨undefS, [(b, some ⟨true, blk'⟩)]⟩) (R.below.setRow hown.1 hg cs') ms rfl (fun q x hx => ?_) (fun q x g' base' hx hxo hq => ?_) (fun q x g' base' hx hxo hq => ?_) (fun q x g' base' hx hq => ?_)
  · obtain ⟨y, h1, _, _, _, _, h6⟩ := hm q x hx
    obtain ⟨k1, k2⟩ := R.memr q y h1
    refine ⟨k1, ?_⟩
    by_cases hq : q = b
    · subst hq
      rw [updM_one, if_pos rfl] at hx; obtain rfl := Option.some.inj hx
      intro i j c hc
      obtain ⟨V, v1, v2⟩ := hB i j c hc
      exact ⟨g, base, cs', t, V, hγ, setRow_heap w g cs cs' t.1 t.2 hg, v1, v2.step ms⟩
    · have := h6 hq; subst this
      intro i j c hc
      obtain ⟨g', base', cs2, t', V, v1, v2, v3, v4⟩ := k2 i j c hc
      exact ⟨g', base', cs2, t', V, v1, (setRow_other w g g' cs' (hown.2 q y g' base' hq h1 v1)).trans v2, v3, v4.step ms⟩
  · obtain ⟨y, h1, h2, _⟩ := hm q x hx
    obtain ⟨k1, k2⟩ := R.own q y g' base' h1 (h2.trans hxo) hq
    exact ⟨k1, fun q' x' g2 base2 hne hx' hq' => let ⟨y', h1', _⟩ := hm q' x' hx'; k2 q' y' g2 base2 hne h1' hq'⟩
  · obtain ⟨y, h1, h2, _⟩ := hm q x hx
    exact R.shr q y g' base' h1 (h2.trans hxo) hq
  · obtain ⟨y, h1, h2, _⟩ := hm q x hx
    have := R.bnd q y g' base' h1 hq
    simpa using this
theorem seg_get (cs : Array Value) (o : Nat) (vs : List Value) (h : o + vs.length ≤ cs.size) (k : Nat) :
    ((cs.toList.take (o + 0) ++ vs ++ cs.toList.drop (o + 0 + vs.length)).toArray)[k]? = if o ≤ k ∧ k < o + vs.length then vs[k - o]? else cs[k]? := by
  simp only [Nat.add_zero, List.getElem?_toArray, List.append_assoc]
  have hl : (cs.toList.take o).length = o := by simp; omega
  by_cases h1 : k < o
  · rw [List.getElem?_append_left (by omega), if_neg (by omega), List.getElem?_take, if_pos h1]; simp
  · rw [List.getElem?_append_right (by omega), hl]
    by_cases h2 : k < o + vs.length
    · rw [List.getElem?_append_left (by omega), if_pos ⟨by omega, h2⟩]
    · rw [List.getElem?_append_right (by omega), if_neg (by omega), List.getElem?_drop, show o + vs.length + (k - o - vs.length) = k by omega]; simp
theorem ok_store (R : Rel A w0 F γ s a w) {nid : Nat} {o : Oper} {out : Out} {t : TypeId} {x y : Operand} (ho : o.op = .store t x y) (h : (exStore P s.mem t (s.ev x) (s.ev y)).den = some out) : Sim P A w0 F nid s o out a w := by
  have hx := R.ev x
  have hy := R.ev y
  unfold exStore at h
  split at h
  · rename_i b i n j p hp hq
    rw [hp] at hx; rw [hq] at hy
    split at h
    · rename_i blk sz he hsz
      split at h
      · rename_i hl
        obtain ⟨hl, hz, hok⟩ := hl
        rw [len_eq] at hl
        split at h
        · rename_i k xs hwr
          obtain ⟨rfl, hagg, rfl, rfl⟩ := wholeRow_spec hwr
          split at h
          · rename_i ys hys
            obtain ⟨hq, h⟩ := den_req h
            have hq : xs.length = sz := of_decide_eq_true hq
            simp [ret0, T.den] at h
            subst h
            obtain ⟨hcs, hyl⟩ := intsOf_rep _ _ _ hys
            obtain ⟨h1, ⟨g, base, h2, h3⟩, h4⟩ := hx
            obtain ⟨rfl, hpos⟩ := h4 _ he
            obtain ⟨c1, c2⟩ := cells_rel hy hok
            have hvl : (a.eval y).cells.toList.length = sz := by rw [← c1.length, hl]
            have hB := (R.memr b _ he).2
            simp only at hB
            obtain ⟨g0, base0, cs, t', V0, k1, k2, k3, k4⟩ := hB 0 0 (.val (.int k (nth 0 xs 0))) (by simp only [Blk.at]; rw [if_pos ⟨trivial, by omega⟩])
            rw [h2] at k1
            obtain ⟨rfl, rfl⟩ : g = g0 ∧ base = base0 := by simpa using k1
            have hfit : base + sz ≤ cs.size := by
              obtain ⟨g0, base0, cs2, t2, V1, q1, q2, q3, q4⟩ := hB (sz - 1) 0 (.val (.int k (nth 0 xs (sz - 1)))) (by simp only [Blk.at]; rw [if_pos ⟨trivial, by omega⟩])
              rw [h2] at q1
              obtain ⟨rfl, rfl⟩ : g = g0 ∧ base = base0 := by simpa using q1
              rw [k2] at q2
              obtain ⟨rfl, rfl⟩ : cs = cs2 ∧ t' = t2 := by simpa [Prod.ext_iff] using q2
              have := (Array.getElem?_eq_some_iff.1 q3).1
              simp [Blk.n] at this; omega
            have k2z : w.heap[g]? = some (.cells cs t'.1 (0, 0)) := by rw [k2, R.below.fresh g cs t'.1 t'.2 (R.own b _ g base he rfl h2).1 k2]
            have hrun := run_storeCells_at P g base t'.1 (a.eval y).cells.toList 0 cs w k2z (by omega) c2
            refine Sim.skip (w' := w.setRow g _) ?_ (R.store he rfl h2 k2 (cs' := (cs.toList.take (base + 0) ++ (a.eval y).cells.toList ++ cs.toList.drop (base + 0 + (a.eval y).cells.toList.length)).toArray) (blk' := .row k ys) ?_ (by simp [Blk.len]; omega) rfl (fun i n hp => ⟨hp.1, by have := hp.2; omega⟩) ?_ o.dst) fun b hb => .inl hb
            · have hs : (a.eval y).cells.size = sz := by simpa using hvl
              simp only [execOp, ho, h3, Instr.storeAt, Instr.sureAddr, storeVar, Sem.run_bind, Sem.run_pure, Result.andThen_ok, sSize hsz, hs]
              rw [show base + (0 * 1 + 0) = base from rfl]
              simp only [ne_eq, not_true, if_false, Sem.run_bind, Sem.run_pure, Result.andThen_ok]
              rw [hrun]
              rfl
            · simp; simp at hvl; omega
            · intro i j c hc
              simp only [Blk.at] at hc
              split at hc
              · rename_i hij
                obtain ⟨rfl, hi⟩ := hij
                obtain rfl := Option.some.inj hc
                obtain ⟨V, v1, v2⟩ := c1.get i (.val (.int k (nth 0 ys i))) (by rw [hcs, List.getElem?_map, nth_eq, List.getD_eq_getElem?_getD, List.getElem?_eq_getElem hi]; rfl)
                refine ⟨V, ?_, v2⟩
                rw [seg_get cs _ _ (by omega)]
                simp only [Blk.n, Nat.mul_one, Nat.add_zero]
                rw [if_pos ⟨by omega, by omega⟩, show base + i - base = i by omega]
                exact v1
              · cases hc
          · exact (den_fail h).elim
        split at h
        · rename_i blk' hset
          simp [ret0, T.den] at h
          subst h
          obtain ⟨h1, ⟨g, base, h2, h3⟩, h4⟩ := hx
          have hpk := h4 _ he
          obtain ⟨c1, c2⟩ := cells_rel hy hok
          have hvl : (a.eval y).cells.toList.length = sz := by rw [← c1.length, hl]
          obtain ⟨s1, s2, s3, s4, s5⟩ := set_at hpk hset (by omega)
          have hB := (R.memr b _ he).2
          have hnn := ptr_n hpk
          simp only at s1 s2 s3 s4 s5 hB hnn
          obtain ⟨c0, hc0⟩ := Option.isSome_iff_exists.1 (s4 0 (by omega))
          obtain ⟨g0, base0, cs, t', V0, k1, k2, k3, k4⟩ := hB i (j + 0) c0 hc0
          rw [h2] at k1
          obtain ⟨rfl, rfl⟩ : g = g0 ∧ base = base0 := by simpa using k1
          have hfit : base + (i * n + j) + sz ≤ cs.size := by
            obtain ⟨c1', hc1'⟩ := Option.isSome_iff_exists.1 (s4 (sz - 1) (by omega))
            obtain ⟨g0, base0, cs2, t2, V1, q1, q2, q3, q4⟩ := hB i (j + (sz - 1)) c1' hc1'
            rw [h2] at q1
            obtain ⟨rfl, rfl⟩ : g = g0 ∧ base = base0 := by simpa using q1
            rw [k2] at q2
            obtain ⟨rfl, rfl⟩ : cs = cs2 ∧ t' = t2 := by simpa [Prod.ext_iff] using q2
            have := (Array.getElem?_eq_some_iff.1 q3).1
            rw [hnn]; omega
          have k2z : w.heap[g]? = some (.cells cs t'.1 (0, 0)) := by rw [k2, R.below.fresh g cs t'.1 t'.2 (R.own b _ g base he rfl h2).1 k2]
          have hrun := run_storeCells_at P g (base + (i * n + j)) t'.1 (a.eval y).cells.toList 0 cs w k2z (by omega) c2
          refine Sim.skip (w' := w.setRow g _) ?_ (R.store he rfl h2 k2 (cs' := (cs.toList.take (base + (i * n + j) + 0) ++ (a.eval y).cells.toList ++ cs.toList.drop (base + (i * n + j) + 0 + (a.eval y).cells.toList.length)).toArray) ?_ s1 s2 s3 ?_ o.dst) fun b hb => .inl hb
          · have : (a.eval y).cells.size = sz := by simpa using hvl
            simp [execOp, ho, h3, Instr.storeAt, Instr.sureAddr, storeVar, sSize hsz, this]
            simp at hrun
            rw [hrun]
            simp [this]
          · simp; simp at hvl; omega
          · intro i' j' c hc
            rw [seg_get cs _ _ (by omega)]
            rcases s5 i' j' c hc with ⟨rfl, e1, e2, e3⟩ | ⟨e1, e2, e3⟩
            · obtain ⟨V, v1, v2⟩ := c1.get _ c e3
              refine ⟨V, ?_, v2⟩
              rw [s2, ← hnn, if_pos ⟨by omega, by omega⟩, show base + (i' * n + j') - (base + (i' * n + j)) = j' - j by omega]
              exact v1
            · obtain ⟨g0, base0, cs2, t2, V1, q1, q2, q3, q4⟩ := hB i' j' c e2
              rw [h2] at q1
              obtain ⟨rfl, rfl⟩ : g = g0 ∧ base = base0 := by simpa using q1
              rw [k2] at q2
              obtain ⟨rfl, rfl⟩ : cs = cs2 ∧ t' = t2 := by simpa [Prod.ext_iff] using q2
              refine ⟨V1, ?_, q4⟩
              rw [s2, if_neg, q3]
              rintro ⟨f1, f2⟩
              rw [← hnn] at f1 f2
              refine e3 ((i' * n + j') - (i * n + j)) (by omega) ?_
              rw [← hnn]; omega
        · exact (den_fail h).elim
      · exact (den_fail h).elim
    · exact (den_fail h).elim
  · exact (den_fail h).elim
end
end Go.Proofs.Ytoibhkhgpahdjaa.Vm
