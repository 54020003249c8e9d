import Derived.Test.YtmmaechogibodaaVmY
import Derived.Test.YtmmaechogibodaaVmRc
import Derived.Test.YtmmaechogibodaaVmCl
import Derived.Test.YtmmaechogibodaaProg
import Derived.Test.YtmmaechogibodaaVmRg
import Derived.Test.YtmmaechogibodaaFA
import Derived.Test.YtmmaechogibodaaFB
import Derived.Test.YtmmaechogibodaaFV
import Derived.Test.YtmmaechogibodaaFC
import Derived.Test.YtmmaechogibodaaFD
import Derived.Test.YtmmaechogibodaaFE
import Derived.Test.YtmmaechogibodaaFG
import Derived.Test.YtmmaechogibodaaFH
import Derived.Test.YtmmaechogibodaaFI
import Derived.Test.YtmmaechogibodaaFJ
import Derived.Test.YtmmaechogibodaaFK
import Derived.Test.YtmmaechogibodaaFL
namespace Go.Proofs.Ytmmaechogibodaa.F
open Go Go.Proofs.Ytmmaechogibodaa.Vm
set_option maxRecDepth 1000000
set_option linter.unusedVariables false
set_option linter.unusedSimpArgs false
noncomputable section
namespace At
variable {F : NS} {γ : GM} {s : St} {a : Act} {ws : World} {A : Ctx} {w0 : World}
noncomputable def opB : Oper := nth { dst := none, op := .move (.tmp 0), type := 0, pos := "", after := #[], guard := none } ops5.toList 4
theorem ops5_eq : ops5.toList = ops5.toList.take 4 ++ [opB] := by kernel_rfl
theorem opB_eq : opB.op = .call { callee := .value (.func 29), args := #[.tmp 23], argTypes := #[51] } ∧ opB.guard = none ∧ opB.dst = some 24 := ⟨by kernel_rfl, by kernel_rfl, by kernel_rfl⟩
theorem enters29 : ∀ (args : Array Value) (w : World), (callFunc 29 args).run P w = .ok (.enter 29 args) w := enters_of Go.Proofs.Try.func29 (by kernel_rfl) rfl
theorem backIn {n : Nat} {t : Act} {W : World} {K : Act → World → Prop} {Q : Exit → Act → World → Prop} {la : Option Addr} {ll cp : Nat} (h : t.tmps.getD 23 undef = .slice la ll cp) (hK : K (t.put (some 24) (.func (.func 33) #[] #[.pointer (some ⟨W.heap.size, 0, none⟩)])) (W.alloc (.cells #[.slice la ll cp] 51))) : opB.wpIn Fence.wide n P t W K Q := by
  obtain ⟨o1, o2, o3⟩ := opB_eq
  have e : (execOp t.eval opB).run P W = .ok (.enter 29 #[.slice la ll cp]) W := by
    have h1 : t.eval (.tmp 23) = .slice la ll cp := h
    have h2 : t.eval (.func 29) = .func (.func 29) #[] #[] := rfl
    simp only [execOp, o1, resolve, h2, Deferred.ofValue, Sem.run_bind, Sem.run_pure, Result.andThen_ok, invoke, List.map_toArray, List.map_cons, List.map_nil, h1]
    simp only [Array.empty_append, Array.append_empty, enters29]
  unfold Oper.wpIn
  refine ⟨fun _ _ => trivial, ?_⟩
  show opB.uponIn Fence.wide n P t K Q ((execOp t.eval opB).run P W)
  rw [e]
  refine ⟨fun h => (by cases h), (backward_calls la ll cp W).mono fun e W' he => ?_⟩
  obtain ⟨rfl, rfl⟩ := he
  show K (t.put opB.dst _) _
  rw [o3]; exact hK
theorem intsV_val : ∀ (ks : List IntKind) (r : List Int) (j k : Nat) (c : CV), (intsV ks r j)[k]? = some c → ∃ v, c = .val v
  | [], r, j, k, c, h => by simp [intsV] at h
  | _ :: ks, r, j, 0, c, h => ⟨_, (Option.some.inj h).symm⟩
  | _ :: ks, r, j, k + 1, c, h => intsV_val ks r (j + 1) k c h
theorem recs_vals {ks : List IntKind} {xs : List (List Int)} {i j : Nat} {c : CV} (h : (Blk.recs ks xs).at i j = some c) : ∃ v, c = .val v := by
  simp only [Blk.at] at h
  split at h
  · exact intsV_val _ _ _ _ _ h
  · cases h
theorem runC_rt {ev : FuncId → Option Vm.Spec} {lenv : Nat → Option LS} : ∀ (c : Code), flatC c = true → ∀ (s : St) (e : Ex) (s' : St), (runC P ev lenv c s).den = some (e, s') → s'.rt = s.rt
  | .skip, _, s, e, s', h => by simp only [runC, T.den, Option.some.injEq, Prod.mk.injEq] at h; rw [h.2]
  | .ret, _, s, e, s', h => by simp only [runC, T.den, Option.some.injEq, Prod.mk.injEq] at h; rw [h.2]
  | .exit id, _, s, e, s', h => by simp only [runC, T.den, Option.some.injEq, Prod.mk.injEq] at h; rw [h.2]
  | .seq x y, hc, s, e, s', h => by
    simp only [flatC, Bool.and_eq_true] at hc
    simp only [runC] at h
    rw [T.den_bind] at h
    cases hx : (runC P ev lenv x s).den with
    | none => rw [hx] at h; cases h
    | some z =>
      obtain ⟨e1, s1⟩ := z
      rw [hx] at h
      simp only [Option.bind_some] at h
      have h1 := runC_rt x hc.1 s e1 s1 hx
      cases e1 with
      | normal => exact (runC_rt y hc.2 s1 e s' h).trans h1
      | exit i => simp only [T.den, Option.some.injEq, Prod.mk.injEq] at h; rw [← h.2]; exact h1
      | ret => simp only [T.den, Option.some.injEq, Prod.mk.injEq] at h; rw [← h.2]; exact h1
      | pan t n => simp only [T.den, Option.some.injEq, Prod.mk.injEq] at h; rw [← h.2]; exact h1
  | .region id ops false, hc, s, e, s', h => by
    simp only [runC] at h
    exact runLX_rt _ _ _ _ _ h
  | .cond c x y, hc, s, e, s', h => by
    have hcc : flatC x = true ∧ flatC y = true := by simpa only [flatC, Bool.and_eq_true] using hc
    simp only [runC] at h
    split at h
    · split at h
      · simp only [T.den] at h
        split at h
        · have h2 := runC_rt x hcc.1 _ e s' h; exact h2
        · have h2 := runC_rt y hcc.2 _ e s' h; exact h2
      · exact (den_fail h).elim
    · simp only [T.den] at h
      split at h
      · exact runC_rt _ (hcc.1) _ e s' h
      · exact runC_rt _ (hcc.2) _ e s' h
    · exact (den_fail h).elim
  | .block id c, hc, s, e, s', h => by
    simp only [flatC] at hc
    simp only [runC] at h
    rw [T.den_bind] at h
    cases hx : (runC P ev lenv c s).den with
    | none => rw [hx] at h; cases h
    | some z =>
      obtain ⟨e1, s1⟩ := z
      rw [hx] at h
      simp only [Option.bind_some] at h
      have h1 := runC_rt c hc s e1 s1 hx
      cases e1 with
      | normal => simp only [T.den, Option.some.injEq, Prod.mk.injEq] at h; rw [← h.2]; exact h1
      | ret => simp only [T.den, Option.some.injEq, Prod.mk.injEq] at h; rw [← h.2]; exact h1
      | pan t n => simp only [T.den, Option.some.injEq, Prod.mk.injEq] at h; rw [← h.2]; exact h1
      | exit i =>
        simp only at h
        split at h
        · simp only [T.den, Option.some.injEq, Prod.mk.injEq] at h; rw [← h.2]; exact h1
        · simp only [T.den, Option.some.injEq, Prod.mk.injEq] at h; rw [← h.2]; exact h1
  | .region id ops true, hc, _, _, _, _ => by simp [flatC] at hc
  | .loop c, hc, _, _, _, _ => by simp [flatC] at hc
  | .rangeFunc .., hc, _, _, _, _ => by simp [flatC] at hc
  | .scope _, hc, _, _, _, _ => by simp [flatC] at hc
  | .label _, hc, _, _, _, _ => by simp [flatC] at hc
  | .goto _, hc, _, _, _, _ => by simp [flatC] at hc
  | .refuse _, hc, _, _, _, _ => by simp [flatC] at hc
theorem list8 : ∀ l : List Int, l.length = 8 → ∃ y0 y1 y2 y3 y4 y5 y6 y7, l = [y0, y1, y2, y3, y4, y5, y6, y7]
  | [y0, y1, y2, y3, y4, y5, y6, y7], _ => ⟨_, _, _, _, _, _, _, _, rfl⟩
theorem flat_X4 : flatC X4 = true := by kernel_rfl
theorem Lp_len : len Lp = 9 := rfl
set_option maxHeartbeats 1000000 in
theorem mid_in {K n : Nat} {us ur : List U} {Z : Nat → Prop} {γe : GM} {w W : World} {Vs : List Value} {ps : List PV} {es : List Ent} {r : RT} (hmk : mkPs 0 args us = some (ps, es, [])) (hA : All2 (RelP ⟨fun b => b < es.length, Z⟩ γe (memOf es) w) ps Vs) (hdec : ∀ u, dec u = some r → ur = u)
    (R : Rel ⟨Z, ownedOf γe es, []⟩ w F γ s a W) (hF : ∀ b, F b → b < s.nx) (hrt : s.rt.map γ = (rootIds 0 args).map γe) (h : (midT K us { s with tmps := put s.tmps 24 anyS }).den = some r) :
    wpListIn Fence.wide n P ops5 (Exit.then ((Code.block 0 (.rangeFunc (.tmp 24) #[25, 26] asg bdy)).wpIn Fence.wide n P (Exit.then (X4.wpIn Fence.wide n P (post n ur Z γe es w)) (post n ur Z γe es w))) (Exit.then (X4.wpIn Fence.wide n P (post n ur Z γe es w)) (post n ur Z γe es w))) [opB] a W := by
  obtain ⟨s5, hs5⟩ : ∃ s5 : St, s5 = { s with tmps := put s.tmps 24 anyS } := ⟨_, rfl⟩
  rw [← hs5] at h
  unfold midT at h
  split at h
  case h_1 => exact (den_fail h).elim
  rename_i v hv
  obtain ⟨hdl, h⟩ := den_req h
  have hdl : v.dd.length < 4611686018427387904 := of_decide_eq_true hdl
  simp only [T.den] at h
  obtain ⟨t23, t4, t5, t6, t7, ⟨ol, ml⟩, ⟨o4, m4⟩, ⟨o5, m5⟩, m6, m7, n1, n2, n3, n4, n5, n6, n7, hlen⟩ := see_spec hv
  -- the slice
  have hVs : nth undefS s.tmps 23 = .pv (.one (.slf v.bl)) := by
    rw [hs5] at t23
    have : nth undefS (put s.tmps 24 anyS) 23 = _ := t23
    rw [nth_put, if_neg (fun e => by cases e.1)] at this
    exact this
  obtain ⟨la, cap, hV⟩ : ∃ la cap, a.tmps.getD 23 undef = .slice la v.dd.length cap := by
    have hm : s.mem v.bl = some ⟨ol, .grow Lp v.dd⟩ := by rw [hs5] at ml; exact ml
    have := R.slots 23; rw [hVs] at this
    rcases this.2.2 _ hm with ⟨z, ad, hV⟩ | ⟨g, base, cap, _, hV, _⟩
    · have z : v.dd.length = 0 := z
      exact ⟨ad, 0, by rw [z]; exact hV⟩
    · exact ⟨_, cap, hV⟩
  refine wpListIn_plain opB_eq.2.1 fun K1 hK1 => backIn hV (hK1 _ _ (wpListIn_nil ?_))
  obtain ⟨W5, hW5⟩ : ∃ W5, W5 = W.alloc (.cells #[.slice la v.dd.length cap] 51) := ⟨_, rfl⟩
  obtain ⟨cl, hcl⟩ : ∃ cl, cl = Value.func (.func 33) #[] #[.pointer (some ⟨W.heap.size, 0, none⟩)] := ⟨_, rfl⟩
  rw [← hW5, ← hcl]
  have hB5 : Bel (fun _ => False) W.heap.size W W5 := hW5 ▸ (Bel.refl _ W).alloc (Nat.le_refl _) _
  have s5z : W5.heap.size = W.heap.size + 1 := by rw [hW5]; show (W.heap.push _).size = _; simp
  have R5 : Rel ⟨Z, ownedOf γe es, []⟩ w F γ s5 (a.put (some 24) cl) W5 := by
    have := (rel_elsewhere R hB5 (fun _ _ h => h) (fun _ h => h.elim)).putV (some 24) (v := anyS) (V := cl) trivial
    rw [hs5]; exact this
  obtain ⟨a5, ha5⟩ : ∃ a5, a5 = a.put (some 24) cl := ⟨_, rfl⟩
  rw [← ha5] at R5 ⊢
  obtain ⟨c, hcI, hbl⟩ := cx_of R5 hv
  have ms6 : s.mem v.b6 = some ⟨true, .cells z6⟩ := by rw [hs5] at m6; exact m6
  have ms7 : s.mem v.b7 = some ⟨true, .cells z7⟩ := by rw [hs5] at m7; exact m7
  have b6l := R.bnd v.b6 _ _ _ ms6 c.c6
  have b7l := R.bnd v.b7 _ _ _ ms7 c.c7
  have ha23 : a5.tmps.getD 23 undef = .slice la v.dd.length cap := by rw [ha5, put_ne (by decide)]; exact hV
  obtain ⟨x, hxb⟩ : ∃ x : Lx c, x.bx = W.heap.size := ⟨⟨la, cap, W.heap.size, by
      have := R5.slots 23; rw [t23, ha23] at this
      exact this.2.2 _ ml, (R5.memr _ _ ml).2, hbl, by rw [hW5]; exact heap_alloc_new W _, by omega, by omega⟩, rfl⟩
  have hcl' : cl = Value.func (.func 33) #[] #[ptrI x] := by rw [hcl]; unfold ptrI; rw [hxb]
  have hg : a5.eval (.tmp 24) = .func (.func 33) #[] #[ptrI x] := by
    rw [← hcl']
    show a5.tmps.getD 24 undef = cl
    have h40 := c.sz
    rw [ha5]
    exact put_eq' (by
      have : (a.put (some 24) cl).tmps.size = 40 := ha5 ▸ h40
      have e : (a.put (some 24) cl).tmps.size = a.tmps.size := by show (a.tmps.setIfInBounds 24 cl).size = _; simp
      omega)
  have hF5 : ∀ b, F b → b < s5.nx := fun b hb => by rw [hs5]; exact hF b hb
  have hrt5 : s5.rt.map γ = (rootIds 0 args).map γe := by rw [hs5]; exact hrt
  have hFb6 := (R5.memr _ _ m6).1
  have hFb7 := (R5.memr _ _ m7).1
  have hd5 : a5.defers = [] := R5.defers
  refine wpIn_block (wpIn_rangeFunc ?_)
  intro fn _
  obtain ⟨ρ, hρ⟩ : ∃ ρ : Loop, ρ = { state := .ready, pending := none, fn, tmps := a5.tmps, params := #[25, 26], assign := asg, body := bdy, defers := W5.heap.size } := ⟨_, rfl⟩
  obtain ⟨W6, hW6⟩ : ∃ W6, (W5.alloc (.deferred (some []))).alloc (.loop ρ) = W6 := ⟨_, rfl⟩
  have hl6 : W6.heap[W5.heap.size + 1]? = some (.loop ρ) := by
    rw [← hW6]; have := World.alloc_heap_new (W5.alloc (.deferred (some []))) (.loop ρ); rwa [World.size_alloc] at this
  have hD6 : W6.heap[W5.heap.size]? = some (.deferred (some [])) := by
    rw [← hW6]; exact (Go.RowKit.Below.heap_alloc _ _ _ (by simp)).trans (World.alloc_heap_new W5 _)
  have B6 : Bel (fun _ => False) W5.heap.size W5 W6 := hW6 ▸ ((Bel.refl _ W5).alloc (Nat.le_refl _) _).alloc (by simp) _
  have J6 : J c W6 := (J.start c).later (B6.mono (Nat.le_refl _) fun _ _ h => h.elim)
  refine ⟨W5.heap.size + 1, [{ target := .collected W5.heap.size, args := #[] }], W6, { target := .fn (.func 33) #[ptrI x], args := #[.func (.yield (W5.heap.size + 1)) #[] #[]] }, W6, 33, #[.func (.yield (W5.heap.size + 1)) #[] #[]] ++ #[ptrI x], W6, ?_, ?_, fun _ _ => trivial, ?_, fun h => (by cases h), ?_⟩
  · rw [← hW6, hρ]; exact run_enterLoop_outer _ _ _ _ _
  · simp only [resolve, hg]
    simp [go_sem]
  · simp [invoke, go_sem, enters33]
  cases ho : scan K v.dd v.id v.day v.dd.length with
  | none => rw [ho] at h; cases h
  | some o =>
  rw [ho] at h
  refine (iter_in (n := n - 1) x J6 hl6 (by rw [hρ]) (by rw [hρ]) (by rw [hρ]) (by rw [hρ]) (by rw [hρ]) (by rw [hρ]) hD6 (Nat.le_succ _) (Nat.le_refl _) (by omega) hdl ho).mono ?_
  rintro e W8 ⟨⟨vv, rfl⟩, hit⟩
  obtain ⟨a', ha'⟩ : ∃ a' : Act, a' = { a5 with defers := [{ target := .collected W5.heap.size, args := #[] }] ++ a5.defers } := ⟨_, rfl⟩
  have hda : a'.defers = [{ target := .collected W5.heap.size, args := #[] }] := by rw [ha', hd5]; rfl
  have hta : a'.tmps = a5.tmps := by rw [ha']
  have zlt : ∀ g, F.z g → g < W5.heap.size := fun g hg => (c.zl g hg).1
  have olt : ∀ g, Owned γ s5.mem g → g < W5.heap.size := fun g ⟨b, e, base, h1, h2, h3⟩ => R5.bnd b e g base h1 h3
  cases o with
  | inl u =>
    obtain ⟨J8, hl8, hD8⟩ := hit
    obtain ⟨W9, hW9⟩ : ∃ W9, W9 = W8.putObj (W5.heap.size + 1) (.loop { ρ with state := .exhausted }) := ⟨_, rfl⟩
    have B9 : Bel (fun g => g = W5.heap.size + 1) W8.heap.size W8 W9 := hW9 ▸ bel_put _ hl8 rfl
    refine ⟨none, W9, by rw [hW9]; exact (run_endLoop (P := P) hl8 (by rw [hρ]; simp)).trans (by rw [show ρ.pending = none by rw [hρ]]), ?_⟩
    rw [← ha']
    show X4.wpIn Fence.wide n P _ a' W9
    have J9 : J c W9 := J8.later (B9.mono (Nat.le_refl _) fun g _ e => e ▸ Nat.le_succ _)
    have hD9 : W9.heap[W5.heap.size]? = some (.deferred (some [])) := (B9.block _ (Array.getElem?_eq_some_iff.1 hD8).1 (by omega)).trans hD8
    have R9 : Rel ⟨Z, ownedOf γe es, a'.defers⟩ w F γ s5 a' W9 := R5.turn (I := c.I) (X := fun b => b = v.b6 ∨ b = v.b7) (m' := s5.mem) (nx' := s5.nx) J9.bel hta (fun _ h => h) rfl (fun _ _ => rfl) hcI (fun _ _ => rfl)
      (fun b e hb he => by
        rcases hb with rfl | rfl
        · rw [m6] at he; obtain rfl := Option.some.inj he; exact ⟨hFb6, J9.r6, rfl, fun _ _ _ e => by cases e⟩
        · rw [m7] at he; obtain rfl := Option.some.inj he; exact ⟨hFb7, J9.r7, rfl, fun _ _ _ e => by cases e⟩)
      (fun b e hb _ he => by
        rcases hb with rfl | rfl
        · rw [m6] at he; obtain rfl := Option.some.inj he; exact ⟨_, m6, rfl, AsLong.refl _⟩
        · rw [m7] at he; obtain rfl := Option.some.inj he; exact ⟨_, m7, rfl, AsLong.refl _⟩)
      (fun b e g base hb he hg => by
        rcases hb with rfl | rfl
        · rw [c.c6] at hg; cases hg; exact J9.f6
        · rw [c.c7] at hg; cases hg; exact J9.f7)
      (fun b e g base hb hn => by rcases hb with rfl | rfl; exact (hn hFb6).elim; exact (hn hFb7).elim)
    have h : ((runC P (env K) lenv0 X4 s5).bind fun x => match x with | (.ret, s1) => fin us s1 | _ => .fail).den = some r := h
    rw [T.den_bind] at h
    cases hx4 : (runC P (env K) lenv0 X4 s5).den with
    | none => rw [hx4] at h; cases h
    | some z =>
    obtain ⟨ee, s6⟩ := z
    rw [hx4] at h
    simp only [Option.bind_some] at h
    cases ee with
    | normal => exact (den_fail h).elim
    | exit => exact (den_fail h).elim
    | pan => exact (den_fail h).elim
    | ret =>
    have R9r := R9.reroot (Bel.refl (fun _ => False) W9) (fun _ _ h => h)
    refine wpIn_mono (runC_in (r := none) (n := n) (env__prod_Catalogue_List_ok K) X4 flat_X4 _ _ _ hx4 (fun t m e => by cases e) _ W9 a' W9 F γ R9r hF5) ?_
    rintro ex a10 W10 ⟨rfl, F10, γ10, R10, hF10, hx10⟩
    have R11 := rel_back R9 R10
    have Dlt9 : W5.heap.size < W9.heap.size := (Array.getElem?_eq_some_iff.1 hD9).1
    have R11 : Rel ⟨Z, ownedOf γe es, [{ target := .collected W5.heap.size, args := #[] }]⟩ w F10 γ10 s6 a10 W10 := by rw [← hda]; exact R11
    refine leave_mark hmk hA hdec h R11 ((R10.below.block _ Dlt9 fun ho => Nat.lt_irrefl _ (olt _ ho)).trans hD9) (fun g hg => ?_) R5.below.size ?_
    · rcases R10.tracked hg with h | h | h
      · have := zlt g h; omega
      · omega
      · have := olt g h; omega
    · rw [runC_rt X4 flat_X4 _ _ _ hx4, ← hrt5]
      exact List.map_congr_left fun b hb => hx10.2 b (R5.rts b hb)
  | inr r9 =>
    obtain ⟨hd8, hl8, hD8⟩ := hit
    obtain ⟨W9, hW9⟩ : ∃ W9, W9 = W8.putObj (W5.heap.size + 1) (.loop { ({ ρ with state := .done, pending := some .ret } : Loop) with state := .exhausted }) := ⟨_, rfl⟩
    have B9 : Bel (fun g => g = W5.heap.size + 1) W8.heap.size W8 W9 := hW9 ▸ bel_put _ hl8 rfl
    refine ⟨some .ret, W9, by rw [hW9]; exact run_endLoop (P := P) hl8 (by simp), ?_⟩
    rw [← ha']
    refine wpIn_ret ?_
    show post n ur Z γe es w .ret a' W9
    have hd9 := hd8.later (Nat.le_succ _) (Nat.le_refl _) (B9.mono (Nat.le_refl _) fun g _ e => .inl e)
    have hD9 : W9.heap[W5.heap.size]? = some (.deferred (some [])) := (B9.block _ (Array.getElem?_eq_some_iff.1 hD8).1 (by omega)).trans hD8
    obtain ⟨Ad, wd, Fd, γd, sd, ad, bn, Rd, hbel, k2, k3, q2, q3, qb, hl8', htr, hfr⟩ := hd9
    have hq : ¬ F s5.nx := fun hh => Nat.lt_irrefl _ (hF5 _ hh)
    have nb6 : v.b6 ≠ s5.nx := fun e => hq (e ▸ hFb6)
    have nb7 : v.b7 ≠ s5.nx := fun e => hq (e ▸ hFb7)
    obtain ⟨γ', hγ'⟩ : ∃ γ' : GM, γ' = fun b => if b = s5.nx then γd bn else γ b := ⟨_, rfl⟩
    have γq : γ' s5.nx = γd bn := by rw [hγ']; simp
    have γo : ∀ b, F b → γ' b = γ b := fun b hb => by
      rw [hγ']
      exact if_neg (fun e : b = s5.nx => hq (by rw [← e]; exact hb))
    obtain ⟨m', hm'⟩ : ∃ m', m' = (sF s5 v r9).mem := ⟨_, rfl⟩
    obtain ⟨y0, y1, y2, y3, y4, y5, y6, y7, hr9⟩ := list8 r9.1 hl8'
    have e6 : m' v.b6 = some ⟨true, .cells [.val (.int .i64 y0), .val (.int .i64 y1), .val (.int .i64 y2), .val (.int .i64 y3), .val (.int .i64 y4), .val (.int .i64 y5), .val (.int .i64 y6), .val (.int .i64 y7), .slf s5.nx]⟩ := by
      rw [hm']; simp only [sF, updM, hr9]
      simp [nb6, n3, nth]
    have e7 : m' v.b7 = some ⟨true, .cells z7⟩ := by
      rw [hm']; simp only [sF, updM]
      simp [nb7, z7]
    have eq : m' s5.nx = some ⟨true, .recs [.i64, .i64] r9.2⟩ := by
      rw [hm']; simp only [sF, updM]
      simp
    have eo : ∀ b, ¬ (b = v.b6 ∨ b = v.b7 ∨ b = s5.nx) → m' b = s5.mem b := fun b hb => by
      rw [hm']; simp only [sF, updM]
      simp only [not_or] at hb
      simp [hb.1, hb.2.1, hb.2.2]
    have R9 : Rel ⟨Z, ownedOf γe es, a'.defers⟩ w ⟨fun b => F b ∨ b = s5.nx, F.z⟩ γ' (sF s5 v r9) a' W9 := by
      have := R5.turn (I := c.I) (X := fun b => b = v.b6 ∨ b = v.b7 ∨ b = s5.nx) (m' := m') (nx' := s5.nx + 64) (F' := ⟨fun b => F b ∨ b = s5.nx, F.z⟩) (γ' := γ') hbel hta (fun _ h => .inl h) rfl γo
        (fun g hg => by obtain ⟨b, e, base, h1, h2⟩ := hcI g hg; exact ⟨b, e, base, h1.imp id .inl, h2⟩) eo ?_ ?_ ?_ ?_
      · rw [hm'] at this; exact this
      · intro b e hb he
        rcases hb with rfl | rfl | rfl
        · rw [e6] at he; obtain rfl := Option.some.inj he
          refine ⟨.inl hFb6, relB_newcells (Rd.memr 2 _ q2).2 (by rw [hr9]; rfl) (by rw [γo _ hFb6, c.c6]; simp [shiftA, k2]) (fun k c1 c2 V hc1 hc2 hV => ?_), rfl, fun _ _ _ e => by cases e⟩
          rw [hr9] at hc1
          match k, hc1, hc2 with
          | 0, hc1, hc2 => cases hc1; cases hc2; exact hV
          | 1, hc1, hc2 => cases hc1; cases hc2; exact hV
          | 2, hc1, hc2 => cases hc1; cases hc2; exact hV
          | 3, hc1, hc2 => cases hc1; cases hc2; exact hV
          | 4, hc1, hc2 => cases hc1; cases hc2; exact hV
          | 5, hc1, hc2 => cases hc1; cases hc2; exact hV
          | 6, hc1, hc2 => cases hc1; cases hc2; exact hV
          | 7, hc1, hc2 => cases hc1; cases hc2; exact hV
          | 8, hc1, hc2 =>
            cases hc1; cases hc2
            refine ⟨.inr rfl, hV.2.1, fun e he => ?_⟩
            rw [eq] at he
            obtain rfl := Option.some.inj he
            exact (hV.2.2 _ qb).name γq
          | k + 9, hc1, hc2 => simp at hc1
        · rw [e7] at he; obtain rfl := Option.some.inj he
          exact ⟨.inl hFb7, relB_vals rfl (by rw [γo _ hFb7, c.c7, k3]) (fun _ _ _ => rfl) (Rd.memr 3 _ q3).2, rfl, fun _ _ _ e => by cases e⟩
        · rw [eq] at he; obtain rfl := Option.some.inj he
          refine ⟨.inr rfl, fun i j cv hc => ?_, rfl, fun _ _ _ e => by cases e⟩
          obtain ⟨g, base, cs, t, V, h1, h2, h3, h4⟩ := (Rd.memr bn _ qb).2 i j cv hc
          obtain ⟨vv, rfl⟩ := recs_vals hc
          exact ⟨g, base, cs, t, V, γq.trans h1, h2, h3, h4⟩
      · intro b e hb hFb he
        rcases hb with rfl | rfl | rfl
        · rw [e6] at he; obtain rfl := Option.some.inj he; exact ⟨_, m6, rfl, rfl, rfl, rfl, fun _ _ h => h⟩
        · rw [e7] at he; obtain rfl := Option.some.inj he; exact ⟨_, m7, rfl, AsLong.refl _⟩
        · exact (hq hFb).elim
      · intro b e g base hb he hg
        rcases hb with rfl | rfl | rfl
        · rw [γo _ hFb6, c.c6] at hg; cases hg; exact Rd.nofr 2 _ _ _ q2 rfl k2
        · rw [γo _ hFb7, c.c7] at hg; cases hg; exact Rd.nofr 3 _ _ _ q3 rfl k3
        · rw [γq] at hg; exact Rd.nofr bn _ _ _ qb rfl hg
      · intro b e g base hb hn he hg
        rcases hb with rfl | rfl | rfl
        · exact (hn hFb6).elim
        · exact (hn hFb7).elim
        · rw [γq] at hg
          refine ⟨hfr g base hg, Rd.bnd bn _ _ _ qb hg, fun b' e' g' base' hb' hn' hne => ?_⟩
          rcases hb' with rfl | rfl | rfl
          · exact (hn' hFb6).elim
          · exact (hn' hFb7).elim
          · exact (hne rfl).elim
    have R9 : Rel ⟨Z, ownedOf γe es, [{ target := .collected W5.heap.size, args := #[] }]⟩ w ⟨fun b => F b ∨ b = s5.nx, F.z⟩ γ' (sF s5 v r9) a' W9 := by rw [← hda]; exact R9
    have h : (fin us (sF s5 v r9)).den = some r := h
    refine leave_mark hmk hA hdec h R9 hD9 (fun g hg => ?_) R5.below.size ?_
    · rcases hg with hz | ⟨b, e, base, hb, hgb⟩
      · have := zlt g hz; omega
      · rw [← hm'] at hb
        by_cases hX : b = v.b6 ∨ b = v.b7 ∨ b = s5.nx
        · rcases hX with rfl | rfl | rfl
          · rw [γo _ hFb6, c.c6] at hgb; cases hgb; have := c.l6; omega
          · rw [γo _ hFb7, c.c7] at hgb; cases hgb; have := c.l7; omega
          · rw [γq] at hgb
            exact (htr g (.inr ⟨bn, _, base, qb, hgb⟩)).2
        · rw [eo b hX] at hb
          rw [γo _ (R5.memr b e hb).1] at hgb
          have := R5.bnd b e g base hb hgb
          omega
    · rw [← hrt5]
      exact List.map_congr_left fun b hb => γo b (R5.rts b hb)
end At
end
end Go.Proofs.Ytmmaechogibodaa.F
