/- The law of a range over a map. Conditions: the program follows the model's mixed orders. -/
import Derived.Test.YtimhhefngigfeaaVmMp
set_option linter.unusedVariables false
set_option linter.unusedSimpArgs false
namespace Go.Proofs.Ytimhhefngigfeaa.Vm
open Go Go.RowKit
open Go.ChangeMaps (setBlock)
theorem mkSlots_len : ∀ (l : List (Nat × SP)) (q : Nat) (tm : List SV) (us : List U) {tm' : List SV} {es : List Ent} {r : List U}, mkSlots q l tm us = some (tm', es, r) → tm'.length = tm.length
  | [], q, tm, us, tm', es, r, h => by
    simp only [mkSlots, Option.some.injEq, Prod.mk.injEq] at h
    rw [h.1]
  | (t, sp) :: l, q, tm, us, tm', es, r, h => by
    cases sp <;> simp only [mkSlots] at h
    case pv p =>
      split at h
      · split at h
        · rename_i h2
          simp only [Option.some.injEq, Prod.mk.injEq] at h
          rw [← h.1, mkSlots_len l _ _ _ h2]; simp [put_eq]
        · cases h
      · cases h
    all_goals (rw [mkSlots_len l _ _ _ h]; simp [put_eq])
theorem rep_len {α : Type} (n : Nat) (x : α) : (List.replicate n x).length = n := by simp
theorem mkSt_len {p : Pat} {us : List U} {s : St} (h : mkSt p us = some s) : s.tmps.length = p.nt := by
  unfold mkSt at h
  split at h
  · rename_i h1
    split at h
    · obtain rfl := Option.some.inj h
      rw [mkSlots_len _ _ _ _ h1, rep_len]
    · cases h
  · cases h
section
variable {P : Program} {A : Ctx} {w0 : World}
theorem handOp {ops : Array Oper} {o : Oper} {a : Act} {w w' : World} {K : Act → World → Prop} {Q : Exit → Act → World → Prop} {V : Value} (hg : o.guard = none) (h : (execOp a.eval o).run P w = .ok (.value V) w') (hK : K (a.put o.dst V) w') :
    if Region.wanted o (yielded ops a.tmps) then o.wp P a w K Q else K (a.put o.dst undef) w := by
  rw [if_pos (by simp [Region.wanted, hg])]
  unfold Oper.wp
  rw [h]; exact hK
theorem eval_put {a : Act} {t : Nat} {V : Value} (h : t < a.tmps.size) : (a.put (some t) V).eval (.tmp t) = V := by
  show (a.put (some t) V).tmps.getD t undef = V
  rw [put_tmps, if_pos ⟨rfl, h⟩]
theorem eval_put_ne {a : Act} {t u : Nat} {V : Value} (h : u ≠ t) : (a.put (some t) V).eval (.tmp u) = a.tmps.getD u undef := by
  show (a.put (some t) V).tmps.getD u undef = _
  rw [put_tmps, if_neg (by simp; intro e; exact absurd e.symm h)]
theorem tmps_put_ne {a : Act} {t u : Nat} {V : Value} (h : u ≠ t) : (a.put (some t) V).tmps.getD u undef = a.tmps.getD u undef := eval_put_ne h
theorem bel_set {w w1 : World} {g : Nat} {o o' : Obj} (hw : w1 = w ∨ w1 = w.drew) (hg : w.heap[g]? = some o) (ho : o.isCells = false) : Bel (fun x => x = g) w.heap.size w (setBlock w1 g o') ∧ (setBlock w1 g o').heap[g]? = some o' ∧ ∀ k, k ≠ g → (setBlock w1 g o').heap[k]? = w.heap[k]? := by
  have hh : w1.heap = w.heap := by rcases hw with rfl | rfl <;> rfl
  have hlt : g < w.heap.size := (Array.getElem?_eq_some_iff.1 hg).1
  have oth : ∀ k, k ≠ g → (setBlock w1 g o').heap[k]? = w.heap[k]? := fun k hk => by simp [setBlock, hh, Ne.symm hk]
  refine ⟨⟨?_, ?_, ?_, by simp [setBlock, hh], fun k _ hk => oth k hk, fun k cs t hk => ?_⟩, by simp [setBlock, hh, hlt], oth⟩
  · rcases hw with rfl | rfl <;> rfl
  · rcases hw with rfl | rfl <;> rfl
  · rcases hw with rfl | rfl <;> rfl
  · have hne : k ≠ g := fun e => by rw [e, hg] at hk; obtain rfl := Option.some.inj hk; simp [Obj.isCells] at ho
    exact ⟨cs, t, (oth k hne).trans hk, Nat.le_refl _⟩
structure Head (A : Ctx) (w0 : World) (sh : MS) (kk vk : List IntKind) (pre : Pat) (ents : Array MapEntry) (clock gm gi : Nat) (r0 : List (Option (Nat × Nat))) (us : List U) (s1 : St) (F : NS) (γ : GM) (a : Act) (w : World) : Prop where
  made : mkSt pre us = some s1
  rel : Rel A w0 F γ s1 a w
  bd : ∀ b, F b → b < s1.nx
  rt : s1.rt.map γ = r0
  tm : ¬ Tracked F γ s1.mem gm
  ti : ¬ Tracked F γ s1.mem gi
  hm : w.heap[gm]? = some (.map ents clock)
  vm : a.tmps.getD sh.t0 undef = .map (some gm)
  vi : a.tmps.getD sh.tit undef = .pointer (some ⟨gi, 0, none⟩)
theorem setM_rel {sh : MS} {kk vk : List IntKind} {pre : Pat} {ents : Array MapEntry} {clock gm gi : Nat} {r0 : List (Option (Nat × Nat))} {us : List U} {s1 : St} {F : NS} {γ : GM} {a : Act} {w w2 : World} {kv : E2} {T1 T2 : Value} (H : Head A w0 sh kk vk pre ents clock gm gi r0 us s1 F γ a w)
    (hB : Bel (fun x => x = gi) w.heap.size w w2) : ∃ F2 γ2, Rel ⟨F.z, Owned γ s1.mem, a.defers⟩ w2 F2 γ2 (setM sh kk vk kv s1) (((a.put (some sh.tnx) T1).put (some sh.tok) T2).put (some sh.ten) (.tuple #[valK kk kv.1, valK vk kv.2])) w2 ∧ (∀ b, F2 b → b < s1.nx + 64) ∧ Ext F γ F2 γ2 ∧ γ2 s1.nx = some (gi, 0) ∧ γ2 (s1.nx + 1) = some (gm, 0) := by
  have R := H.rel.reroot hB (fun g hg e => by subst e; exact H.ti hg)
  have nomem : ∀ q, s1.nx ≤ q → s1.mem q = none := fun q hq => by
    cases h : s1.mem q with
    | none => rfl
    | some e => have := H.bd q (H.rel.memr q e h).1; omega
  have q1 : ∀ b, F b → b ≠ s1.nx := fun b h e => by have := H.bd b h; omega
  have R1 := R.name q1 gi 0 (rt' := s1.rt ++ [s1.nx]) (fun b hb => by
    rcases List.mem_append.1 hb with h | h
    · exact .inl (R.rts b h)
    · exact .inr (by simpa using h))
  have q2 : ∀ b, addN F s1.nx b → b ≠ s1.nx + 1 := fun b h e => by
    rcases h with h | h
    · have := H.bd b h; omega
    · omega
  have R2 := R1.name q2 gm 0 (rt' := s1.rt ++ [s1.nx, s1.nx + 1]) (fun b hb => by
    rcases List.mem_append.1 hb with h | h
    · exact .inl (.inl (R.rts b h))
    · simp only [List.mem_cons, List.not_mem_nil, or_false] at h
      rcases h with h | h
      · exact .inl (.inr h)
      · exact .inr h)
  have g1 : addG (addG γ s1.nx gi 0) (s1.nx + 1) gm 0 s1.nx = some (gi, 0) := by simp [addG]
  have g2 : addG (addG γ s1.nx gi 0) (s1.nx + 1) gm 0 (s1.nx + 1) = some (gm, 0) := by simp [addG]
  have R3 := R2.tell (t := sh.tit) (v := .pv (.one (.ptr s1.nx 0 0 0))) (by
    rw [H.vi]
    exact ⟨.inl (.inr rfl), ⟨gi, 0, g1, rfl⟩, fun e he => by
      have he : s1.mem s1.nx = some e := he
      rw [nomem _ (Nat.le_refl _)] at he; cases he⟩)
  have R4 := R3.tell (t := sh.t0) (v := .pv (.one (.mapr (s1.nx + 1)))) (by
    rw [H.vm]
    exact ⟨.inr rfl, ⟨gm, 0, g2, rfl⟩, fun e he => by
      have he : s1.mem (s1.nx + 1) = some e := he
      rw [nomem _ (Nat.le_succ _)] at he; cases he⟩)
  have R5 := R4.putV (some sh.tnx) (v := anyS) (V := T1) trivial
  have R6 := R5.putV (some sh.tok) (v := anyS) (V := T2) trivial
  have R7 := R6.putV (some sh.ten) (v := .tup [pvK kk kv.1, pvK vk kv.2]) (V := .tuple #[valK kk kv.1, valK vk kv.2]) ⟨_, rfl, pvK_rel kk kv.1, pvK_rel vk kv.2, trivial⟩
  refine ⟨_, _, R7.nxt (s1.nx + 64), fun b hb => ?_, (addN_ext (γ := γ) q1 gi 0).trans (addN_ext q2 gm 0), g1, g2⟩
  rcases hb with (h | h) | h
  · have := H.bd b h; omega
  · omega
  · omega
theorem map_app_eq {α β : Type} {f g : α → β} {l : List α} {x y : α} (h : (l ++ [x, y]).map f = (l ++ [x, y]).map g) : l.map f = l.map g ∧ f x = g x ∧ f y = g y := by
  rw [List.map_append, List.map_append] at h
  have := List.append_inj h (by simp)
  refine ⟨this.1, ?_, ?_⟩
  · have := this.2; simp at this; exact this.1
  · have := this.2; simp at this; exact this.2
theorem head_next {sh : MS} {kk vk : List IntKind} {pre : Pat} {ents : Array MapEntry} {clock gm gi : Nat} {r0 : List (Option (Nat × Nat))} {us us' : List U} {s1 s' : St} {F F2 F' : NS} {γ γ2 γ' : GM} {a a' : Act} {w w2 w' : World}
    (H : Head A w0 sh kk vk pre ents clock gm gi r0 us s1 F γ a w) (hgi : w0.heap.size ≤ gi) (hne : gm ≠ gi) (hB : Bel (fun x => x = gi) w.heap.size w w2) (hgi2 : gi < w2.heap.size) (hx : Ext F γ F2 γ2) (g1 : γ2 s1.nx = some (gi, 0)) (g2 : γ2 (s1.nx + 1) = some (gm, 0))
    (R' : Rel ⟨F.z, Owned γ s1.mem, a.defers⟩ w2 F' γ' s' a' w') (hrt : s'.rt.map γ' = (s1.rt ++ [s1.nx, s1.nx + 1]).map γ2) (hk : keptM sh s1 s' = true) (hr : rdSt pre { s' with rt := s1.rt } = some us') :
    ∃ s2 F3 γ3, Head A w0 sh kk vk pre ents clock gm gi r0 us' s2 F3 γ3 a' w' ∧ w'.heap[gi]? = w2.heap[gi]? := by
  unfold keptM at hk
  simp only [Bool.and_eq_true] at hk
  obtain ⟨⟨k1, k2⟩, k3⟩ := hk
  have k1 := listEqM_spec k1
  rw [k1] at hrt
  obtain ⟨e1, e2, e3⟩ := map_app_eq hrt
  rw [g1] at e2
  rw [g2] at e3
  have hs := R'.slots sh.tit
  have ht := R'.slots sh.t0
  split at k2
  · rename_i b hb
    have hb' : b = s1.nx := by simpa using k2
    subst hb'
    rw [hb] at hs
    split at k3
    · rename_i c hc
      have hc' : c = s1.nx + 1 := by simpa using k3
      subst hc'
      rw [hc] at ht
      obtain ⟨_, ⟨x, y, x1, x2⟩, _⟩ := hs
      obtain ⟨_, ⟨z, u, z1, z2⟩, _⟩ := ht
      rw [e2] at x1
      rw [e3] at z1
      simp only [Option.some.injEq, Prod.mk.injEq] at x1 z1
      obtain ⟨rfl, rfl⟩ := x1
      obtain ⟨rfl, rfl⟩ := z1
      have Ru := R'.unname (rt' := s1.rt) (fun b hb => R'.rts b (by rw [k1]; exact List.mem_append_left _ hb))
      obtain ⟨s2, F3, γ3, hmk, R3, hF3, hrt3⟩ := rdSt_ok hr Ru
      have nt : ∀ g, g < w2.heap.size → ¬ Tracked F γ s1.mem g → ¬ Tracked F3 γ3 s2.mem g := fun g hg hn ht => by
        rcases R3.tracked ht with h | h | h
        · exact hn (.inl h)
        · omega
        · obtain ⟨b, e, base, h1, h2, h3⟩ := h
          exact hn (.inr ⟨b, e, base, h1, h3⟩)
      have same : ∀ g, g < w2.heap.size → ¬ Tracked F γ s1.mem g → w'.heap[g]? = w2.heap[g]? := fun g hg hn => R'.below.block g hg fun ⟨b, e, base, h1, h2, h3⟩ => hn (.inr ⟨b, e, base, h1, h3⟩)
      have hgm : gm < w.heap.size := (Array.getElem?_eq_some_iff.1 H.hm).1
      have hgm2 : gm < w2.heap.size := Nat.lt_of_lt_of_le hgm hB.size
      refine ⟨s2, F3, γ3, ⟨hmk, H.rel.unroot hB (fun g e => by subst e; exact .inl hgi) R3, hF3, ?_, nt gm hgm2 H.tm, nt gi hgi2 H.ti, ?_, z2, by simpa using x2⟩, same gi hgi2 H.ti⟩
      · rw [hrt3]
        show s1.rt.map γ' = r0
        rw [e1, ← H.rt]
        exact List.map_congr_left fun b hb => hx.2 b (H.rel.rts b hb)
      · rw [same gm hgm2 H.tm, hB.block gm hgm hne]
        exact H.hm
    · cases k3
  · cases k2
def MS.body (sh : MS) : Code := .seq (.region sh.id1 sh.ops1 false) (.seq (.cond (.tmp sh.tok) .skip (.exit sh.j)) (.block sh.b3 (.seq (.region sh.id3 sh.ops3 false) sh.rest)))
theorem leftOf_push (ents : Array MapEntry) (seen : Array Nat) (b : Nat) : (leftOf ents (seen.push b)).toList = ents.toList.filter fun x => !seen.contains x.born && !(x.born == b) := by
  unfold leftOf
  rw [Array.toList_filter]
  congr 1
  funext x
  rw [Array.contains_push, Bool.not_or]
theorem maps_core (hmix : P.follows .mixedOrders = true) {env : FuncId → Option Spec} (hE : EnvOk P env) {lenv : Nat → Option LS} {C : Code} {sh : MS} (hC : MpIs C sh) (hlp : LpOk P lenv sh.rest) {kk vk : List IntKind} {pre : Pat} {γ0 : Type} {ex' : Ex} {post' : Pat} {dec' : List U → Option γ0} {enc' : γ0 → List U} {rnd : E2 → List U → Option (List U ⊕ γ0)}
    (hdec' : ∀ u r, dec' u = some r → enc' r = u) (hS : ∀ kv us x, rnd kv us = some x → (roundM P env lenv sh kk vk pre ex' post' dec' kv us).den = some x) {ents : Array MapEntry} {clock gm gi : Nat} {r0 : List (Option (Nat × Nat))} (hborn : bornOk ents.toList clock) (hgi : w0.heap.size ≤ gi) (hne : gm ≠ gi) (hbnd : sh.bnd pre.nt = true)
    {x : List U ⊕ γ0} {Q : Exit → Act → World → Prop}
    (hend : ∀ us s1 F γ a w T1 T2, x = .inl us → Head A w0 sh kk vk pre ents clock gm gi r0 us s1 F γ a w → Q (.exit sh.j) ((a.put (some sh.tnx) T1).put (some sh.tok) T2) w)
    (hout : ∀ r e vs s2 F γ a w, x = .inr r → exOut ex' (enc' r) = some (e, vs) → mkSt post' vs = some s2 → Rel A w0 F γ s2 a w → (∀ b, F b → b < s2.nx) → s2.rt.map γ = r0 → Q e.to a w) :
    ∀ (n : Nat) (left : List E2) (us : List U) (seen : Array Nat) (s1 : St) (F : NS) (γ : GM) (a : Act) (w : World), left.length = n → Head A w0 sh kk vk pre ents clock gm gi r0 us s1 F γ a w → w.heap[gi]? = some (.mapIter (some gm) clock seen clock) → entOk kk vk left (leftOf ents seen).toList → mapsO rnd n left us = some x → Code.rounds P sh.body Q (n + 1) a w := by
  intro n
  induction n with
  | zero | succ n ih =>
    intro left us seen s1 F γ a w hl H hit hent hx
    obtain ⟨nx, ex, e1, ⟨n1, n2, n3⟩, x1, x2, x3⟩ := hC.o1
    have hsz : a.tmps.size = pre.nt := H.rel.size.trans (mkSt_len H.made)
    simp only [MS.bnd, Bool.and_eq_true, decide_eq_true_eq] at hbnd
    obtain ⟨⟨⟨⟨⟨b0, b1⟩, b2⟩, b3⟩, b4⟩, b5⟩ := hbnd
    obtain ⟨ne1, ne2, ne3, ne4, ne5, ne6⟩ := hC.ne
    obtain ⟨l1, l2⟩ := entOk_at hent
    rw [rounds_succ]
    unfold MS.body
    refine wp_seq (wp_region_list ?_)
    rw [e1]
    have hold : ∀ y ∈ ents.toList, y.born < clock := hborn.1
    rcases run_next_at (P := P) w nx.type gi gm clock clock seen ents clock hit H.hm hold (Nat.le_refl _) with ⟨z, hrun⟩ | ⟨e, he, w1, hw1, hrun⟩
    · -- nothing is left
      refine wpList_step fun K hK => handOp n3 (V := .tuple #[.bool false]) (w' := w) ?_ (hK _ _ ?_)
      · have hv : a.eval (.tmp sh.tit) = .pointer (some ⟨gi, 0, none⟩) := H.vi
        simp [execOp, n1, hv, hrun]
      rw [n2]
      refine wpList_step fun K hK => handOp x3 (V := .bool false) (w' := w) ?_ (hK _ _ ?_)
      · have hv : (a.put (some sh.tnx) (.tuple #[.bool false])).eval (.tmp sh.tnx) = .tuple #[.bool false] := eval_put (by omega)
        simp [execOp, x1, hv, Instr.extract]
      rw [x2]
      refine wpList_nil ?_
      show (Code.seq _ _).wp P _ _ _
      refine wp_seq (wp_cond_false (eval_put (by rw [put_size]; omega)) (wp_exit ?_))
      have hl0 : left = [] := List.eq_nil_of_length_eq_zero (by rw [l1]; simpa using z)
      subst hl0
      first
      | (simp only [mapsO, Option.some.injEq] at hx; exact hend us s1 F γ a w _ _ hx.symm H)
      | (cases hl)
    · -- one more
      obtain ⟨i, hi⟩ := List.mem_iff_getElem?.1 he
      have hil : i < left.length := by rw [l1]; exact (List.getElem?_eq_some_iff.1 hi).1
      obtain ⟨ek, ev⟩ := l2 i e hi
      obtain ⟨hB, hgi2, hoth⟩ := bel_set (o' := .mapIter (some gm) clock (seen.push e.born) clock) hw1 hit rfl
      first
      | (exfalso; omega)
      | skip
      all_goals
        simp only [mapsO] at hx
        have hx := anyO_some hx (i := i) (by omega)
        cases hr : rnd (left.getD i ([], [])) us with
        | none => rw [hr] at hx; cases hx
        | some y =>
        rw [hr, Option.bind_some] at hx
        have hrd := hS _ _ _ hr
        generalize hkv : left.getD i ([], []) = kv at hrd ek ev
        obtain ⟨w2, hw2⟩ : ∃ w2, w2 = setBlock w1 gi (.mapIter (some gm) clock (seen.push e.born) clock) := ⟨_, rfl⟩
        rw [← hw2] at hB hgi2 hoth hrun
        refine wpList_step fun K hK => handOp n3 (V := .tuple #[.bool true, e.key, e.val]) (w' := w2) ?_ (hK _ _ ?_)
        · have hv : a.eval (.tmp sh.tit) = .pointer (some ⟨gi, 0, none⟩) := H.vi
          simp [execOp, n1, hv, hrun]
        rw [n2]
        refine wpList_step fun K hK => handOp x3 (V := .bool true) (w' := w2) ?_ (hK _ _ ?_)
        · have hv : (a.put (some sh.tnx) (.tuple #[.bool true, e.key, e.val])).eval (.tmp sh.tnx) = .tuple #[.bool true, e.key, e.val] := eval_put (by omega)
          simp [execOp, x1, hv, Instr.extract]
        rw [x2]
        refine wpList_nil ?_
        show (Code.seq _ _).wp P _ _ _
        refine wp_seq (wp_cond_true (eval_put (by rw [put_size]; omega)) (wp_skip ?_))
        show (Code.block _ _).wp P _ _ _
        obtain ⟨en, tl, e3, m1, m2, m3⟩ := hC.o3
        have hlt2 : gi < w2.heap.size := (Array.getElem?_eq_some_iff.1 hgi2).1
        have hm2 : w2.heap[gm]? = some (.map ents clock) := (hoth gm hne).trans H.hm
        obtain ⟨F2, γ2, R2, hF2, hx2, g1, g2⟩ := setM_rel (kv := kv) (T1 := .tuple #[.bool true, e.key, e.val]) (T2 := .bool true) H hB
        unfold roundM at hrd
        rw [H.made] at hrd
        simp only [e3] at hrd
        rw [← e3] at hrd
        -- what stands behind a round
        have fin : ∀ (ex : Ex) (s' : St) (a' : Act) (w' : World) (F' : NS) (γ' : GM), (kendM sh s1 pre ex' post' dec' (ex, s')).den = some y → Rel ⟨F.z, Owned γ s1.mem, a.defers⟩ w2 F' γ' s' a' w' → s'.rt.map γ' = (s1.rt ++ [s1.nx, s1.nx + 1]).map γ2 →
            Exit.then (Code.rounds P sh.body Q (n + 1)) Q ex.to a' w' := fun ex s' a' w' F' γ' hk R' hrt => by
          have out : ex ≠ .normal → (match listEqM s'.rt (s1.rt ++ [s1.nx, s1.nx + 1]) && exEq ex ex' with
              | true => (match rdSt post' { s' with rt := s1.rt } with | some us' => T.opt (dec' (exIn ex us')) fun r => .ret (Sum.inr r) | none => .fail)
              | false => (.fail : T (List U ⊕ γ0))).den = some y → Exit.then (Code.rounds P sh.body Q (n + 1)) Q ex.to a' w' := fun hnn hk => by
            split at hk
            · rename_i hc
              simp only [Bool.and_eq_true] at hc
              split at hk
              · rename_i us' hus'
                obtain ⟨r', hr', h2⟩ := den_opt hk
                simp only [T.den, Option.some.injEq] at h2
                subst h2
                have k1 := listEqM_spec hc.1
                rw [k1] at hrt
                obtain ⟨q1, _, _⟩ := map_app_eq hrt
                have Ru := R'.unname (rt' := s1.rt) (fun b hb => R'.rts b (by rw [k1]; exact List.mem_append_left _ hb))
                obtain ⟨s2, F3, γ3, hmk, R3, hF3, hrt3⟩ := rdSt_ok hus' Ru
                refine then_other hnn (hout r' ex us' s2 F3 γ3 a' w' (by simpa using hx.symm) ?_ hmk (H.rel.unroot hB (fun g e => by subst e; exact .inl hgi) R3) hF3 ?_)
                · rw [hdec' _ _ hr']; exact exEq_spec hc.2 us'
                · rw [hrt3]
                  show s1.rt.map γ' = r0
                  rw [q1, ← H.rt]
                  exact List.map_congr_left fun b hb => hx2.2 b (H.rel.rts b hb)
              · exact (den_fail hk).elim
            · exact (den_fail hk).elim
          cases ex with
          | normal =>
            simp only [kendM] at hk
            split at hk
            · rename_i hkept
              split at hk
              · rename_i us' hus'
                simp only [T.den, Option.some.injEq] at hk
                subst hk
                obtain ⟨s2, F3, γ3, H2, hsame⟩ := head_next H hgi hne hB hlt2 hx2 g1 g2 R' hrt hkept hus'
                refine ih (left.eraseIdx i) us' (seen.push e.born) s2 F3 γ3 a' w' (by rw [List.length_eraseIdx, if_pos hil]; omega) H2 (hsame.trans hgi2) ?_ hx
                rw [leftOf_push]
                have hf : (leftOf ents seen).toList = ents.toList.filter fun x => !seen.contains x.born := by unfold leftOf; rw [Array.toList_filter]
                rw [hf] at hi hent
                rw [filter_push hborn.2 i hi]
                exact entOk_erase i hent
              · exact (den_fail hk).elim
            · exact (den_fail hk).elim
          | exit k => exact out (by simp) hk
          | ret => exact out (by simp) hk
          | pan t m => exact out (by simp) hk
        have blk : ∀ (ex : Ex) (s' : St) (a' : Act) (w' : World) (F' : NS) (γ' : GM), (blkK sh.b3 (kendM sh s1 pre ex' post' dec') (ex, s')).den = some y → Rel ⟨F.z, Owned γ s1.mem, a.defers⟩ w2 F' γ' s' a' w' → s'.rt.map γ' = (s1.rt ++ [s1.nx, s1.nx + 1]).map γ2 →
            Exit.inBlock sh.b3 (Exit.then (Code.rounds P sh.body Q (n + 1)) Q) ex.to a' w' := fun ex s' a' w' F' γ' hk R' hrt => by
          cases ex with
          | normal => exact fin .normal s' a' w' F' γ' hk R' hrt
          | ret => exact fin .ret s' a' w' F' γ' hk R' hrt
          | pan t m => exact fin (.pan t m) s' a' w' F' γ' hk R' hrt
          | exit k =>
            simp only [blkK] at hk
            simp only [Ex.to, Exit.inBlock]
            split at hk
            · rename_i hi2
              rw [if_pos (by simpa using hi2)]
              exact fin .normal s' a' w' F' γ' hk R' hrt
            · rename_i hi2
              rw [if_neg (by simpa using hi2)]
              exact fin (.exit k) s' a' w' F' γ' hk R' hrt
        refine wp_block (wp_seq (wp_region_list ?_))
        rw [e3]
        refine wpList_step fun K hK => handOp m3 (V := .tuple #[e.key, e.val]) (w' := w2) ?_ (hK _ _ ?_)
        · have hv : ((a.put (some sh.tnx) (.tuple #[.bool true, e.key, e.val])).put (some sh.tok) (.bool true)).eval (.tmp sh.tit) = .pointer (some ⟨gi, 0, none⟩) := by
            rw [eval_put_ne ne2, tmps_put_ne ne1]; exact H.vi
          have hmem : e ∈ ents.toList := by
            have : e ∈ leftOf ents seen := by simpa using he
            unfold leftOf at this
            rw [Array.mem_filter] at this
            simpa using this.1
          have he2 := run_entry_at (P := P) w2 gi gm clock seen ents clock e hgi2 hm2 hmem hborn.2
          simp [execOp, m1, hv, he2]
        rw [m2, ek, ev]
        rw [ek, ev] at R2
        exact runLXK_gen (W := fun _ l a w => wpList P sh.ops3 _ l a w) hE (fun _ _ _ h => wpList_nil h) (fun _ _ _ _ _ _ h => wpList_step h) (fun ex s' a' w' F' γ' h1 hrt R' hF' hx' => by
          have hrt' : s'.rt.map γ' = (s1.rt ++ [s1.nx, s1.nx + 1]).map γ2 := by
            rw [hrt]; exact hx'.rt R2.rts
          cases ex with
          | normal =>
            refine wp_mono (runCK_ok hmix hE sh.rest hlp s' _ h1 _ w2 a' w' F' γ' R' hF') ?_
            rintro ex0 a2 w3 ⟨e', s'', rfl, hk, F'', γ'', R'', hF'', hrt2⟩
            exact blk e' s'' a2 w3 F'' γ'' hk R'' (hrt2.trans hrt')
          | exit k => exact blk (.exit k) s' a' w' F' γ' h1 R' hrt'
          | ret => exact blk .ret s' a' w' F' γ' h1 R' hrt'
          | pan t m => exact blk (.pan t m) s' a' w' F' γ' h1 R' hrt') tl 1 _ _ w2 F2 γ2 R2 rfl (fun b hb => by have := hF2 b hb; show b < s1.nx + 64 + 64 * 1; omega) (Ext.refl F2 γ2) hrd (fun o ho => by rw [e3]; exact List.mem_cons_of_mem _ ho)
theorem exOut_exit {ex : Ex} {us vs : List U} {k : Nat} (h : exOut ex us = some (.exit k, vs)) : ex = .exit k := by
  cases ex with
  | normal => simp [exOut] at h
  | ret => simp [exOut] at h
  | exit i => simp [exOut] at h; rw [h.1]
  | pan t n =>
    cases us with
    | nil => simp [exOut] at h
    | cons u us => cases u <;> simp [exOut] at h
theorem mapLoop_ok (hmix : P.follows .mixedOrders = true) {env : FuncId → Option Spec} (hE : EnvOk P env) {lenv : Nat → Option LS} {C : Code} {sh : MS} (hC : MpIs C sh) (hlp : LpOk P lenv sh.rest) {kk vk : List IntKind} {pre : Pat} {β γ0 : Type} {ex' : Ex} {post' : Pat} {dec : List U → Option β} {enc : β → List U} {dec' : List U → Option γ0} {enc' : γ0 → List U} {rnd : E2 → List U → Option (List U ⊕ γ0)}
    (hex : ∀ k, ex' ≠ .exit k) (hdec : ∀ u r, dec u = some r → enc r = u) (hdec' : ∀ u r, dec' u = some r → enc' r = u) (hS : ∀ kv us x, rnd kv us = some x → (roundM P env lenv sh kk vk pre ex' post' dec' kv us).den = some x)
    {L : List E2 → List U → Option (β ⊕ γ0)} (hL0 : ∀ es us r, L es us = some r → mapsB rnd dec es us = some r) :
    ∀ (s : St) (e : Ex) (s' : St), (runML P sh ⟨kk, vk, pre, β, γ0, ex', post', L, enc, enc'⟩ s).den = some (e, s') → ∀ A w0, Comes P A w0 C s e s' := by
  intro s e s' h A w0 a w F γ R hF
  unfold runML at h
  split at h
  case h_2 => exact (den_fail h).elim
  rename_i kt vt b hu hs0 hbnd
  split at h
  case h_2 => exact (den_fail h).elim
  rename_i kk' vk' es hm
  split at h
  case isFalse => exact (den_fail h).elim
  rename_i hc
  obtain ⟨rfl, rfl⟩ := hc
  split at h
  case h_2 => exact (den_fail h).elim
  rename_i us hr
  simp only [Bool.and_eq_true] at hbnd
  obtain ⟨bS, bP⟩ := hbnd
  have hbp := bP
  simp only [MS.bnd, Bool.and_eq_true, decide_eq_true_eq] at bS
  obtain ⟨⟨⟨⟨⟨b0, b1⟩, b2⟩, b3⟩, b4⟩, b5⟩ := bS
  have hst := R.slots sh.t0
  rw [hs0] at hst
  obtain ⟨hFb, ⟨gm, base, hgb, hV⟩, _⟩ := hst
  obtain ⟨ents, clock, hheap, hok⟩ := R.maps b true _ _ es gm base hm hgb
  have hown := R.own b _ gm base hm rfl hgb
  have hgm : gm < w.heap.size := (Array.getElem?_eq_some_iff.1 hheap).1
  obtain ⟨mv, rg, e0, ⟨m1, m2, m3⟩, g1, g2, g3⟩ := hC.o0
  obtain ⟨ne1, ne2, ne3, ne4, ne5, ne6⟩ := hC.ne
  rw [hC.code]
  refine wp_seq (wp_region_list ?_)
  rw [e0]
  refine wpList_step fun K hK => handOp m3 (V := .map (some gm)) (w' := w) ?_ (hK _ _ ?_)
  · have hv : a.eval (.tmp sh.t0) = .map (some gm) := hV
    simp [execOp, m1, hv]
  rw [m2]
  refine wpList_step fun K hK => handOp g3 (V := .pointer (some ⟨w.heap.size, 0, none⟩)) (w' := w.alloc (.mapIter (some gm) clock #[] clock)) ?_ (hK _ _ ?_)
  · have hv : (a.put (some sh.t31) (.map (some gm))).eval (.tmp sh.t31) = .map (some gm) := eval_put (by rw [R.size]; exact b1)
    simp [execOp, g1, hv, run_range_map (P := P) w sh.tm kt vt gm ents clock hu hheap]
  rw [g2]
  refine wpList_nil ?_
  show (Code.block _ _).wp P _ _ _
  obtain ⟨a2, ha2⟩ : ∃ a2, a2 = (a.put (some sh.t31) (.map (some gm))).put (some sh.tit) (.pointer (some ⟨w.heap.size, 0, none⟩)) := ⟨_, rfl⟩
  rw [← ha2]
  obtain ⟨w1, hw1⟩ : ∃ w1, w1 = w.alloc (.mapIter (some gm) clock #[] clock) := ⟨_, rfl⟩
  rw [← hw1]
  have R0 : Rel A w0 F γ (startM sh s) a2 w := by
    rw [ha2]
    exact (R.putV (some sh.t31) (v := anyS) trivial).putV (some sh.tit) (v := anyS) trivial
  have Rh := R0.hide b
  have hB : Bel (fun _ => False) w.heap.size w w1 := by rw [hw1]; exact (Bel.refl _ w).alloc (Nat.le_refl _) _
  have hs1 : w1.heap.size = w.heap.size + 1 := by rw [hw1]; exact Array.size_push _
  obtain ⟨s1, F1, γ1, hmk, R1, hF1, hrt1⟩ := rdSt_ok hr (Rh.reroot hB fun _ _ h => h)
  have hmemh : ∀ c e, ((startM sh s).hide b).mem c = some e → c ≠ b ∧ s.mem c = some e := fun c e hc => by
    have hc : (if c == b then none else s.mem c) = some e := hc
    by_cases hcb : c = b
    · subst hcb; simp at hc
    · rw [if_neg (by simpa using hcb)] at hc; exact ⟨hcb, hc⟩
  have nt : ∀ g, g < w1.heap.size → ¬ F.z g → (∀ c e base, c ≠ b → s.mem c = some e → γ c ≠ some (g, base)) → ¬ Tracked F1 γ1 s1.mem g := fun g hg hz hc ht => by
    rcases R1.tracked ht with h | h | h
    · exact hz h
    · omega
    · obtain ⟨c, e, base, h1, h2, h3⟩ := h
      obtain ⟨hcb, h4⟩ := hmemh c e h1
      exact hc c e base hcb h4 h3
  have H : Head A w0 sh kk' vk' pre ents clock gm w.heap.size (s.rt.map γ) us s1 F1 γ1 a2 w1 :=
    ⟨hmk, Rh.unroot hB (fun _ h => h.elim) R1, hF1, hrt1, nt gm (by omega) (fun hz => (R.zok gm hz).2.2 b _ base hm rfl hgb) (fun c e base' hcb hce hg => (hown.2 c e gm base' hcb hce hg) rfl),
      nt _ (by omega) (fun hz => by have := (R.zok _ hz).1; omega) (fun c e base' _ hce hg => by have := R.bnd c e _ base' hce hg; omega),
      by rw [hw1, heap_alloc_old _ _ hgm]; exact hheap, by rw [ha2, tmps_put_ne ne4, tmps_put_ne ne3]; exact hV, by rw [ha2]; exact eval_put (by rw [put_size, R.size]; exact b2)⟩
  have hit : w1.heap[w.heap.size]? = some (.mapIter (some gm) clock #[] clock) := by rw [hw1]; exact heap_alloc_new _ _
  have hent0 : entOk kk' vk' es (leftOf ents #[]).toList := by
    have : leftOf ents #[] = ents := by unfold leftOf; rw [Array.filter_eq_self]; intro x _; simp
    rw [this]; exact hok.1
  simp only [T.den] at h
  cases hL1 : L es us with
  | none => rw [hL1] at h; cases h
  | some r =>
  rw [hL1] at h
  have hL := hL0 es us r hL1
  unfold mapsB at hL
  cases hx : mapsO rnd es.length es us with
  | none => rw [hx] at hL; cases hL
  | some x =>
  rw [hx, Option.bind_some] at hL
  refine wp_block (wp_loop_rounds (es.length + 1) ?_)
  refine maps_core hmix hE hC hlp hdec' hS hok.2 R.below.size (by omega) hbp (x := x) ?_ ?_ es.length es us #[] s1 F1 γ1 a2 w1 rfl H hit hent0 hx
  · intro us' s2 F2 γ2 a' w' T1 T2 hxe H2
    subst hxe
    simp only [Option.map_eq_some_iff] at hL
    obtain ⟨r', hr', rfl⟩ := hL
    have h : (match mkSt pre (enc r') with | some s1 => (.ret (.normal, Vm.addMap sh.t0 kk' vk' es (endM sh s1)) : T (Ex × St)) | none => .fail).den = some (e, s') := h
    rw [hdec _ _ hr', H2.made] at h
    simp only [T.den, Option.some.injEq, Prod.mk.injEq] at h
    obtain ⟨rfl, rfl⟩ := h
    have Re := (H2.rel.putV (some sh.tnx) (v := anyS) (V := T1) trivial).putV (some sh.tok) (v := anyS) (V := T2) trivial
    have Rf := Re.addMap (s := endM sh s2) H2.bd H2.hm hok H2.tm hown.1 (t0 := sh.t0) (by rw [tmps_put_ne ne6, tmps_put_ne ne5]; exact H2.vm)
    simp only [Exit.inBlock, if_true]
    refine ⟨rfl, _, _, Rf, fun c hc => ?_, ?_⟩
    · rcases hc with hc | hc
      · have := H2.bd c hc
        show c < s2.nx + 64
        omega
      · have hc : c = s2.nx := hc
        show c < s2.nx + 64
        omega
    · rw [← H2.rt]
      refine List.map_congr_left fun c hc => ?_
      have := H2.bd c (H2.rel.rts c hc)
      have hne : c ≠ (endM sh s2).nx := fun e => by rw [e] at this; exact Nat.lt_irrefl _ this
      simp [addG, hne]
  · intro r' e' vs s2 F2 γ2 a' w' hxe hexo hmk2 R2 hF2 hrt2
    subst hxe
    simp only [Option.some.injEq] at hL
    subst hL
    have h : (match exOut ex' (enc' r') with
      | some (e, vs) => (match mkSt post' vs with | some s' => (.ret (e, s') : T (Ex × St)) | none => .fail)
      | none => .fail).den = some (e, s') := h
    rw [hexo] at h
    simp only [hmk2, T.den, Option.some.injEq, Prod.mk.injEq] at h
    obtain ⟨rfl, rfl⟩ := h
    have goal : (fun ex a' w' => ex = e'.to ∧ ∃ F' γ', Rel A w0 F' γ' s2 a' w' ∧ (∀ b, F' b → b < s2.nx) ∧ s2.rt.map γ' = s.rt.map γ) e'.to a' w' := ⟨rfl, F2, γ2, R2, hF2, hrt2⟩
    cases e' with
    | exit k => exact (hex k (exOut_exit hexo)).elim
    | normal => exact goal
    | ret => exact goal
    | pan t m => exact goal
noncomputable def runMK (P : Program) (env : FuncId → Option Spec) (lenv : Nat → Option LS) (menv : Nat → Option (MS × MLS)) {β : Type} : Code → St → (Ex × St → T β) → T β
  | .seq a b, s, k => match (cReg a).bind fun x => menv x.1 with
    | some (sh, ls) => (runML P sh ls s).bind k
    | none => runMK P env lenv menv a s (seqK (fun s' => runMK P env lenv menv b s' k) k)
  | c, s, k => runCK P env lenv c s k
def MpOk (P : Program) (menv : Nat → Option (MS × MLS)) : Code → Prop
  | .seq a b => match (cReg a).bind fun x => menv x.1 with
    | some (sh, ls) => ∀ s e s', (runML P sh ls s).den = some (e, s') → ∀ A w0, Comes P A w0 (.seq a b) s e s'
    | none => MpOk P menv a ∧ MpOk P menv b
  | _ => True
theorem runMK_ok (hmix : P.follows .mixedOrders = true) {env : FuncId → Option Spec} (hE : EnvOk P env) {lenv : Nat → Option LS} {menv : Nat → Option (MS × MLS)} {β : Type} {r : β} : ∀ (c : Code), LpOk P lenv c → MpOk P menv c → ∀ (s : St) (k : Ex × St → T β), (runMK P env lenv menv c s k).den = some r → ∀ A w0, ComesK P A w0 c s k r
  | .seq x y, hl, hm, s, k, h, A, w0 => by
    intro a w F γ R hF
    simp only [runMK] at h
    simp only [MpOk] at hm
    split at h
    · rename_i sh ls hms
      rw [hms] at hm
      simp only at hm
      rw [T.den_bind] at h
      cases hx : (runML P sh ls s).den with
      | none => rw [hx] at h; cases h
      | some z =>
        obtain ⟨e, s'⟩ := z
        rw [hx] at h
        refine wp_mono (hm s e s' hx A w0 a w F γ R hF) ?_
        rintro ex a' w' ⟨rfl, F', γ', R', hF', hrt⟩
        exact ⟨e, s', rfl, h, F', γ', R', hF', hrt⟩
    · rename_i hms
      rw [hms] at hm
      simp only at hm
      refine wp_seq (wp_mono (runMK_ok hmix hE x hl.1 hm.1 s _ h A w0 a w F γ R hF) ?_)
      rintro ex a' w' ⟨e1, s1, rfl, h1, F', γ', R', hF', hrt⟩
      cases e1 with
      | normal =>
        refine wp_mono (runMK_ok hmix hE y hl.2 hm.2 s1 k h1 A w0 a' w' F' γ' R' hF') ?_
        rintro ex a2 w2 ⟨e2, s2, g1, g2, F2, γ2, R2, hF2, hrt2⟩
        exact ⟨e2, s2, g1, g2, F2, γ2, R2, hF2, hrt2.trans hrt⟩
      | exit i => exact ⟨.exit i, s1, rfl, h1, F', γ', R', hF', hrt⟩
      | ret => exact ⟨.ret, s1, rfl, h1, F', γ', R', hF', hrt⟩
      | pan t n => exact ⟨.pan t n, s1, rfl, h1, F', γ', R', hF', hrt⟩
  | .skip, hl, hm, s, k, h, A, w0 => runCK_ok hmix hE _ hl s k h A w0
  | .ret, hl, hm, s, k, h, A, w0 => runCK_ok hmix hE _ hl s k h A w0
  | .exit _, hl, hm, s, k, h, A, w0 => runCK_ok hmix hE _ hl s k h A w0
  | .cond _ _ _, hl, hm, s, k, h, A, w0 => runCK_ok hmix hE _ hl s k h A w0
  | .block _ _, hl, hm, s, k, h, A, w0 => runCK_ok hmix hE _ hl s k h A w0
  | .region _ _ _, hl, hm, s, k, h, A, w0 => runCK_ok hmix hE _ hl s k h A w0
  | .loop _, hl, hm, s, k, h, A, w0 => runCK_ok hmix hE _ hl s k h A w0
  | .rangeFunc .., hl, hm, s, k, h, A, w0 => runCK_ok hmix hE _ hl s k h A w0
  | .scope _, hl, hm, s, k, h, A, w0 => runCK_ok hmix hE _ hl s k h A w0
  | .label _, hl, hm, s, k, h, A, w0 => runCK_ok hmix hE _ hl s k h A w0
  | .goto _, hl, hm, s, k, h, A, w0 => runCK_ok hmix hE _ hl s k h A w0
  | .refuse _, hl, hm, s, k, h, A, w0 => runCK_ok hmix hE _ hl s k h A w0
noncomputable def runFM (P : Program) (env : FuncId → Option Spec) (lenv : Nat → Option LS) (menv : Nat → Option (MS × MLS)) (fn : Func) (args res : List PP) {β : Type} (dec : List U → Option β) (us : List U) : T β :=
  match mkPs 0 args us, fn.body with
  | some (ps, es, []), some c => runMK P env lenv menv c ⟨ps.map .pv ++ List.replicate (fn.ntmps - len ps) undefS, memOf es, len es, rootIds 0 args⟩ (finK P fn es args res dec)
  | _, _ => .fail
theorem fn_okM (hmix : P.follows .mixedOrders = true) {env : FuncId → Option Spec} (hE : EnvOk P env) {lenv : Nat → Option LS} {menv : Nat → Option (MS × MLS)} {f : FuncId} {fn : Func} {args res : List PP} {β : Type} {G : List U → Option β} {enc : β → List U} {dec : List U → Option β} (hf : P.funcs[f]? = some fn) (hlp : ∀ c, fn.body = some c → LpOk P lenv c ∧ MpOk P menv c)
    (hdec : ∀ u r, dec u = some r → enc r = u) (hS : ∀ us r, G us = some r → (runFM P env lenv menv fn args res dec us).den = some r) : FnOk P f ⟨args, res, β, G, enc⟩ := by
  intro us r hG Z γ w Vs ps es hmk hA hM
  have h := hS us r hG
  unfold runFM at h
  have hmk' : mkPs 0 args us = some (ps, es, []) := hmk
  rw [hmk'] at h
  cases hbody : fn.body with
  | none => rw [hbody] at h; cases h
  | some c =>
  rw [hbody] at h
  simp only at h
  refine calls_of_wp hf hbody ?_
  refine wp_mono (runMK_ok hmix hE c (hlp c hbody).1 (hlp c hbody).2 _ _ h _ w _ w _ γ (entry_rel hA hM) (fun b hb => by show b < len es; rw [len_eq]; exact hb)) ?_
  rintro ex a' w' ⟨e, s1, rfl, h, F', γ', R', hF', hrt⟩
  cases e with
  | normal => exact ⟨R'.defers, answers (fun u hu => hdec u r hu) hmk' hA h R' hrt⟩
  | ret => exact ⟨R'.defers, answers (fun u hu => hdec u r hu) hmk' hA h R' hrt⟩
  | exit i => exact (den_fail h).elim
  | pan t n => exact (den_fail h).elim
def seqsAt (id : Nat) : Code → List Code
  | .seq a b => match cReg a with
    | some x => (match x.1 == id with | true => [.seq a b] | false => seqsAt id a ++ seqsAt id b)
    | none => seqsAt id a ++ seqsAt id b
  | _ => []
def mpAt (id : Nat) (c : Code) : Code := nth .skip (seqsAt id c) 0
def msOf (c : Code) : MS := match mpOf c with | some x => x | none => ⟨0, 0, 0, 0, 0, 0, 0, 0, 0, 0, 0, 0, #[], #[], #[], .skip⟩
def menv1 (id : Nat) (sh : MS) (ls : MLS) (i : Nat) : Option (MS × MLS) := match i == id with | true => some (sh, ls) | false => none
theorem mpOk_one {id : Nat} {sh : MS} {ls : MLS} : ∀ (c : Code), (∀ C ∈ seqsAt id c, ∀ s e s', (runML P sh ls s).den = some (e, s') → ∀ A w0, Comes P A w0 C s e s') → MpOk P (menv1 id sh ls) c
  | .seq a b, h => by
    unfold seqsAt at h
    unfold MpOk
    cases hc : cReg a with
    | none =>
      rw [hc] at h
      exact ⟨mpOk_one a fun C hC => h C (List.mem_append_left _ hC), mpOk_one b fun C hC => h C (List.mem_append_right _ hC)⟩
    | some x =>
      rw [hc] at h
      simp only [Option.bind_some, menv1]
      cases he : x.1 == id with
      | true =>
        simp only [he] at h ⊢
        exact h _ (by simp)
      | false =>
        simp only [he] at h ⊢
        exact ⟨mpOk_one a fun C hC => h C (List.mem_append_left _ hC), mpOk_one b fun C hC => h C (List.mem_append_right _ hC)⟩
  | .skip, _ => trivial
  | .ret, _ => trivial
  | .exit _, _ => trivial
  | .cond _ _ _, _ => trivial
  | .block _ _, _ => trivial
  | .region _ _ _, _ => trivial
  | .loop _, _ => trivial
  | .rangeFunc .., _ => trivial
  | .scope _, _ => trivial
  | .label _, _ => trivial
  | .goto _, _ => trivial
  | .refuse _, _ => trivial
theorem mpOk_fn {fn : Func} {id : Nat} {sh : MS} {ls : MLS} {C : Code} (hl : seqsAt id (bodyOf fn) = [C]) (h : ∀ s e s', (runML P sh ls s).den = some (e, s') → ∀ A w0, Comes P A w0 C s e s') : ∀ c, fn.body = some c → MpOk P (menv1 id sh ls) c := fun c hc => by
  have hb : bodyOf fn = c := by unfold bodyOf; rw [hc]
  rw [hb] at hl
  exact mpOk_one c fun D hD => by
    rw [hl] at hD
    obtain rfl : D = C := by simpa using hD
    exact h
def LoopsMay (P : Program) (lenv : Nat → Option LS) : List Code → Prop
  | [] => True
  | b :: l => ((∃ k, key b = some k ∧ lenv k = none) ∨ ∃ k ls, key b = some k ∧ lenv k = some ls ∧ LoopOk P b ls) ∧ LoopsMay P lenv l
theorem loopsMay_mem {lenv : Nat → Option LS} : ∀ {l : List Code}, LoopsMay P lenv l → ∀ b ∈ l, ∀ k ls, key b = some k → lenv k = some ls → LoopOk P b ls
  | [], _, b, hb, _, _, _, _ => by simp at hb
  | c :: l, ⟨h0, h⟩, b, hb, k, ls, hk, hls => by
    rcases List.mem_cons.1 hb with rfl | hb
    · rcases h0 with ⟨k0, h1, h2⟩ | ⟨k0, ls0, h1, h2, h3⟩
      · rw [h1] at hk; obtain rfl := Option.some.inj hk
        rw [h2] at hls; cases hls
      · rw [h1] at hk; obtain rfl := Option.some.inj hk
        rw [h2] at hls; obtain rfl := Option.some.inj hls
        exact h3
    · exact loopsMay_mem h b hb k ls hk hls
theorem lps_fnM {lenv : Nat → Option LS} {fn : Func} {l : List Code} (hl : loopsOf (bodyOf fn) = l) (h : LoopsMay P lenv l) : ∀ c, fn.body = some c → LpOk P lenv c := fun c hc => by
  have : bodyOf fn = c := by unfold bodyOf; rw [hc]
  rw [this] at hl
  exact lpOk_of c (hl ▸ loopsMay_mem h)
end
end Go.Proofs.Ytimhhefngigfeaa.Vm
