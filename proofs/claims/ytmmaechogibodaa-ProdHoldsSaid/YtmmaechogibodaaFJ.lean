import Derived.Test.YtmmaechogibodaaVmY
import Derived.Test.YtmmaechogibodaaVmRc
import Derived.Test.YtmmaechogibodaaVmCl
import Derived.Test.YtmmaechogibodaaProg
import Derived.Test.YtmmaechogibodaaVmRg
import Derived.Test.YtmmaechogibodaaFA
import Derived.Test.YtmmaechogibodaaFB
import Derived.Test.YtmmaechogibodaaFV
import Derived.Test.YtmmaechogibodaaFC
import Derived.Test.YtmmaechogibodaaFD
import Derived.Test.YtmmaechogibodaaFE
import Derived.Test.YtmmaechogibodaaFG
import Derived.Test.YtmmaechogibodaaFH
import Derived.Test.YtmmaechogibodaaFI
namespace Go.Proofs.Ytmmaechogibodaa.F
open Go Go.Proofs.Ytmmaechogibodaa.Vm
set_option maxRecDepth 1000000
set_option linter.unusedVariables false
set_option linter.unusedSimpArgs false
noncomputable section
namespace At
variable {F : NS} {γ : GM} {s : St} {a : Act} {ws : World} {A : Ctx} {w0 : World}
theorem cv_shift {F1 F2 : NS} {γ1 γ2 : GM} {m1 m2 : MM} {W : World} (hz : ∀ g, F1.z g → F2.z g) : ∀ (l : List Sh) (x : List Vm.D) (j : Nat) (Vs : List Value), All2 (RelC F1 γ1 m1 W) (cvsL l x j) Vs → All2 (RelC F2 γ2 m2 W) (cvsL l x j) Vs
  | [], x, j, [], _ => trivial
  | h :: l, x, j, V :: Vs, hh => by
    refine ⟨?_, cv_shift hz l x (j + 1) Vs hh.2⟩
    have h1 := hh.1
    cases h with
    | int k => exact h1
    | bool => exact h1
    | str => exact h1
    | sl q => exact Deep.step hz (fun _ _ => rfl) h1
  | [], x, j, _ :: _, hh => hh.elim
  | _ :: _, x, j, [], hh => hh.elim
theorem wrap_in {x : Int} (h0 : -9223372036854775808 ≤ x) (h1 : x < 9223372036854775808) : IntKind.i64.wrap x = x := by
  have e : IntKind.i64.wrap x = if x % 18446744073709551616 ≥ 9223372036854775808 then x % 18446744073709551616 - 18446744073709551616 else x % 18446744073709551616 := by
    simp [IntKind.wrap, IntKind.signed, IntKind.bits]
  rw [e]; split <;> omega
theorem nt33 : Go.Proofs.Try.f33.ntmps = 19 := by kernel_rfl
/-- What the iterator leaves. -/
def iterR {v : Seen} (c : Cx F γ s a ws v) (l D : Nat) (ρ : Loop) (o : Unit ⊕ R9) (W' : World) : Prop := match o with
  | .inl _ => J c W' ∧ W'.heap[l]? = some (.loop ρ) ∧ W'.heap[D]? = some (.deferred (some []))
  | .inr r => Done c r l D W' ∧ W'.heap[l]? = some (.loop { ρ with state := .done, pending := some .ret }) ∧ W'.heap[D]? = some (.deferred (some []))
theorem put_ne {t : Act} {d q : Nat} {z : Value} (h : d ≠ q) : (t.put (some d) z).tmps.getD q undef = t.tmps.getD q undef := by
  show (t.tmps.setIfInBounds d z).getD q undef = _
  rw [Array.getD_eq_getD_getElem?, Array.getD_eq_getD_getElem?, Array.getElem?_setIfInBounds_ne h]
theorem put_eq' {t : Act} {d : Nat} {z : Value} (h : d < t.tmps.size) : (t.put (some d) z).tmps.getD d undef = z := by
  show (t.tmps.setIfInBounds d z).getD d undef = _
  rw [getD_set _ _ _ _ _ h, if_pos rfl]
theorem Ia.put {v : Seen} {c : Cx F γ s a ws v} {x : Lx c} {y : Value} {t : Act} (h : Ia x y t) {d : Nat} {z : Value} (h0 : d ≠ 0) (h1 : d ≠ 1) : Ia x y (t.put (some d) z) :=
  ⟨by show (t.tmps.setIfInBounds d z).size = 19; rw [Array.size_setIfInBounds]; exact h.sz, h.df, (put_ne h0).trans h.t0, (put_ne h1).trans h.t1⟩
set_option maxHeartbeats 1000000 in
theorem iter_in {K n : Nat} {v : Seen} {c : Cx F γ s a ws v} (x : Lx c) {W : World} (hJ : J c W) {l D : Nat} {ρ : Loop} (hl : W.heap[l]? = some (.loop ρ)) (hst : ρ.state = .ready) (hpe : ρ.pending = none) (hpa : ρ.params = #[25, 26]) (htm : ρ.tmps = a.tmps) (has : ρ.assign = asg) (hbd : ρ.body = bdy)
    (hD : W.heap[D]? = some (.deferred (some []))) (hlw : ws.heap.size ≤ l) (hDw : ws.heap.size ≤ D) (hlD : l ≠ D) (hdl : v.dd.length < 4611686018427387904) {o : Unit ⊕ R9} (hs : scan K v.dd v.id v.day v.dd.length = some o) :
    CallsIn Fence.wide n P 33 #[.func (.yield l) #[] #[], ptrI x] W fun e W' => (∃ vv, e = .returned vv) ∧ iterR c l D ρ o W' := by
  obtain ⟨y, hy⟩ : ∃ y, y = Value.func (.yield l) #[] #[] := ⟨_, rfl⟩
  rw [← hy]
  refine callsIn_of_wp (c := b33) Go.Proofs.Try.func33 rfl trivial ?_ rfl
  rw [b33_eq]
  have ha0 : Ia x y { tmps := #[y, ptrI x] ++ Array.replicate (Go.Proofs.Try.f33.ntmps - (#[y, ptrI x] : Array Value).size) undef, defers := [] } := by
    rw [nt33]
    exact ⟨by simp, rfl, by simp, by simp⟩
  have fin2 : ∀ b, (fI c l D W) b → b < 2 := fun b hb => hb
  -- the place to begin with
  have e0 := (den2_eq _).symm.trans (T0_eq K y v.dd)
  unfold T0 at e0
  rw [T.den_bind] at e0
  cases hq0 : (runC P (env K) lenv0 Q0 (sI y .any v.dd)).den with
  | none => rw [hq0] at e0; cases e0
  | some z =>
  obtain ⟨e1, s1⟩ := z
  rw [hq0] at e0
  simp only [Option.bind_some] at e0
  cases e1 with
  | exit => exact (den_fail e0).elim
  | ret => exact (den_fail e0).elim
  | pan => exact (den_fail e0).elim
  | normal =>
  obtain ⟨kv, hk, e0⟩ := den_opt e0
  obtain rfl : kv = (y, .int .i64 (IntKind.i64.wrap ((v.dd.length : Int) - 1))) := by simpa [T.den] using e0
  refine wpIn_seq (wpIn_mono (runC_in (r := none) (n := n) (env__prod_Catalogue_List_ok K) Q0 flat_Q0 _ _ _ hq0 (fun t m e => by cases e) ⟨zR c l D W, fun _ => False, []⟩ W _ W (fI c l D W) (gI x) (it_rel x hJ hlw hDw ha0 trivial) fin2) ?_)
  rintro ex t1 W1 ⟨rfl, F1, γ1, R1, hF1, hx1⟩
  obtain ⟨hJ1, hl1, hD1, ha1, h31⟩ := it_back x hJ hlw hDw hl hD R1 hx1 hk
  show (Code.block 0 _).wpIn Fence.wide n P _ t1 W1
  refine wpIn_block ?_
  refine wpIn_loop (fun t W' => ∃ k : Nat, J c W' ∧ W'.heap[l]? = some (.loop ρ) ∧ W'.heap[D]? = some (.deferred (some [])) ∧ Ia x y t ∧ t.tmps.getD 3 undef = .int .i64 ((k : Int) - 1) ∧ scan K v.dd v.id v.day k = some o ∧ k ≤ v.dd.length)
    (fun t _ => match t.tmps.getD 3 undef with | .int _ z => (z + 1).toNat | _ => 0) ⟨v.dd.length, hJ1, hl1, hD1, ha1, by rw [h31]; congr 1; rw [show IntKind.i64.wrap ((v.dd.length : Int) - 1) = (v.dd.length : Int) - 1 from ?_]; exact wrap_in (by omega) (by omega), hs, Nat.le_refl _⟩ ?_
  rintro t W' ⟨k, hJ, hl, hD, ha, h3, hsc, hkl⟩
  have fin2 : ∀ b, (fI c l D W') b → b < 2 := fun b hb => hb
  have hc3 : RelC (fI c l D W') (gI x) (sI y (.val (.int .i64 ((k : Int) - 1))) v.dd).mem W' (.val (.int .i64 ((k : Int) - 1))) (t.tmps.getD 3 undef) := h3
  -- is there one more?
  have e1 := (den2_eq _).symm.trans (T1_eq K y ((k : Int) - 1) v.dd)
  unfold T1 at e1
  rw [T.den_bind] at e1
  cases hq1 : (runC P (env K) lenv0 Q1 (sI y (.val (.int .i64 ((k : Int) - 1))) v.dd)).den with
  | none => rw [hq1] at e1; cases e1
  | some z =>
  obtain ⟨ee, s2⟩ := z
  rw [hq1] at e1
  simp only [Option.bind_some] at e1
  cases ee with
  | exit => exact (den_fail e1).elim
  | ret => exact (den_fail e1).elim
  | pan => exact (den_fail e1).elim
  | normal =>
  obtain ⟨kv, hk2, e1⟩ := den_opt e1
  obtain ⟨bv, hb8, e1⟩ := den_opt e1
  obtain ⟨rfl, rfl⟩ : kv = (y, .int .i64 ((k : Int) - 1)) ∧ bv = .bool (decide ((k : Int) - 1 ≥ 0)) := by simpa [T.den] using e1
  refine wpIn_seq (wpIn_seq (wpIn_mono (runC_in (r := none) (n := n) (env__prod_Catalogue_List_ok K) Q1 flat_Q1 _ _ _ hq1 (fun t m e => by cases e) ⟨zR c l D W', fun _ => False, []⟩ W' _ W' (fI c l D W') (gI x) (it_rel x hJ hlw hDw ha hc3) fin2) ?_))
  rintro ex t2 W2 ⟨rfl, F2, γ2, R2, hF2, hx2⟩
  obtain ⟨hJ2, hl2, hD2, ha2, h32⟩ := it_back x hJ hlw hDw hl hD R2 hx2 hk2
  have h8 : t2.eval (.tmp 8) = .bool (decide ((k : Int) - 1 ≥ 0)) := by have := R2.slots 8; rw [slotV_spec hb8] at this; exact this
  show (Code.cond (.tmp 8) .skip (.exit 0)).wpIn Fence.wide n P _ t2 W2
  cases k with
  | zero =>
    refine wpIn_cond_false (by rw [h8]; rfl) (wpIn_exit ?_)
    obtain rfl : Sum.inl () = o := by simpa [scan] using hsc
    simp only [Exit.then, Exit.inBlock, if_true]
    exact ⟨ha2.df, _, results_none rfl _ _ _, ⟨_, rfl⟩, hJ2, hl2, hD2⟩
  | succ i =>
  refine wpIn_cond_true (by rw [h8]; simp) (wpIn_skip ?_)
  show (Code.seq _ _).wpIn Fence.wide n P _ t2 W2
  have ek : (((i + 1 : Nat) : Int) - 1) = (i : Int) := by omega
  rw [ek] at h32
  have fin2 : ∀ b, (fI c l D W2) b → b < 2 := fun b hb => hb
  have hc3 : RelC (fI c l D W2) (gI x) (sI y (.val (.int .i64 (i : Int))) v.dd).mem W2 (.val (.int .i64 (i : Int))) (t2.tmps.getD 3 undef) := h32
  -- the member
  have e3 := (den2_eq _).symm.trans (T3_eq K y (i : Int) v.dd)
  rw [bi_eq, if_pos (by simp; omega), Int.toNat_natCast] at e3
  unfold T3 at e3
  rw [T.den_bind] at e3
  cases hq3 : (runLX P (env K) opsQ.toList 2 (opsQ.toList.take 6) 0 (sI y (.val (.int .i64 (i : Int))) v.dd)).den with
  | none => rw [hq3] at e3; cases e3
  | some z =>
  obtain ⟨ee, s3⟩ := z
  rw [hq3] at e3
  simp only [Option.bind_some] at e3
  cases ee with
  | exit => exact (den_fail e3).elim
  | ret => exact (den_fail e3).elim
  | pan => exact (den_fail e3).elim
  | normal =>
  obtain ⟨kv, hk3, e3⟩ := den_opt e3
  obtain ⟨fv, hf11, e3⟩ := den_opt e3
  obtain ⟨iv, hi12, e3⟩ := den_opt e3
  obtain ⟨cl, hc16, e3⟩ := den_opt e3
  obtain ⟨rfl, rfl, rfl, rfl⟩ : kv = (y, .int .i64 (i : Int)) ∧ y = fv ∧ iv = .int .i64 (i : Int) ∧ cl = cvsL Lp (nth [] v.dd i) 0 := by
    simp only [T.den, Option.some.injEq, Prod.mk.injEq] at e3
    exact ⟨e3.1, e3.2.1.symm, e3.2.2.1, e3.2.2.2⟩
  refine wpIn_seq (wpIn_block (wpIn_seq (wpIn_region_list ?_)))
  rw [opsQ_eq]
  have key : wpList P opsQ (InPost ⟨zR c l D W2, fun _ => False, []⟩ W2 (fI c l D W2) (gI x) .normal s3) (opsQ.toList.take 6) t2 W2 :=
    runLX_ok (env__prod_Catalogue_List_ok K) (fun a' w' F' γ' R' hF' hx' => ⟨rfl, F', γ', R', hF', hx'⟩) _ 0 _ t2 W2 _ _ (it_rel x hJ2 hlw hDw ha2 hc3) (fun b hb => by have := fin2 b hb; omega) (Ext.refl _ _) hq3
  refine listIn (r := none) (n := n) (fun ⟨a, w, q⟩ => Ex.to_out _ q.1.symm) (fun c a w q => by cases q.1) (fun t3 W3 hp => ?_) _ t2 W2 flat_Q3 key
  obtain ⟨_, F3, γ3, R3, hF3, hx3⟩ := hp
  obtain ⟨hJ3, hl3, hD3, ha3, h33⟩ := it_back x hJ2 hlw hDw hl2 hD2 R3 hx3 hk3
  have v11 : t3.tmps.getD 11 undef = y := by have := R3.slots 11; rw [slotV_spec hf11] at this; exact this
  have v12 : t3.tmps.getD 12 undef = .int .i64 (i : Int) := by have := R3.slots 12; rw [slotV_spec hi12] at this; exact this
  obtain ⟨C, v16, hC⟩ : ∃ C, t3.tmps.getD 16 undef = .agg C ∧ All2 (RelC F3 γ3 s3.mem W3) (cvsL Lp (nth [] v.dd i) 0) C.toList := by
    have := R3.slots 16; rw [aggS_spec hc16] at this; exact this
  have hC' := cv_shift (γ2 := gR c) (m2 := (sR (i : Int) (nth [] v.dd i) v.id v.day).mem) (F2 := fR c l D W3) (fun g hz => by
    obtain ⟨z1, z2, _⟩ := R3.zok g hz
    have B := R3.below.size
    have := c.l6; have := c.l7; have := hJ2.bel.size
    have ll : l < W2.heap.size := (Array.getElem?_eq_some_iff.1 hl2).1
    have lD : D < W2.heap.size := (Array.getElem?_eq_some_iff.1 hD2).1
    rcases z2 with z2 | z2 | z2
    · have z2 : zR c l D W2 g := z2
      exact ⟨z1, z2.2⟩
    · exact ⟨z1, by omega, by omega, by omega, by omega⟩
    · exact z2.elim) _ _ _ _ hC
  -- the round
  cases hrn : rnd K (i : Int) (nth [] v.dd i) v.id v.day with
  | none => rw [scan, hrn] at hsc; cases hsc
  | some z =>
  rw [scan, hrn, Option.bind_some] at hsc
  have hyl : (Instr.yield l #[.int .i64 (i : Int), .agg C]).run P W3 = .ok (.round l ρ.fn ((a.tmps.setIfInBounds 25 (.int .i64 (i : Int))).setIfInBounds 26 (.agg C)) asg bdy) W3 := by
    have := run_yield (P := P) (args := #[.int .i64 (i : Int), .agg C]) hl3 (by rw [hpa]; rfl)
    rw [this, hpa, htm, has, hbd]
    simp
  show wpListIn Fence.wide n P opsQ _ [opY, opN] t3 W3
  refine wpListIn_plain opY_eq.2.1 fun K1 hK1 => yieldIn (v11.trans hy) v12 v16 hyl ((round_in (n := n - 1) (fn := ρ.fn) hJ3 hC' hl3 hst hpe hD3 hlw hDw hlD hrn).mono fun e W4 hr => ?_)
  cases z with
  | inl u =>
    obtain ⟨rfl, hJ4, hl4, hD4⟩ := hr
    refine ⟨true, rfl, hK1 _ _ (wpListIn_plain opN_eq.2.1 fun K2 hK2 => notIn (b := true) (put_eq' (by rw [ha3.sz]; decide)) (hK2 _ _ (wpListIn_nil ?_)))⟩
    obtain ⟨t4, ht4⟩ : ∃ t4, t4 = (t3.put (some 17) (.bool true)).put (some 18) (.bool (!true)) := ⟨_, rfl⟩
    have ha4 : Ia x y t4 := ht4 ▸ (ha3.put (by decide) (by decide)).put (by decide) (by decide)
    have h34 : t4.tmps.getD 3 undef = .int .i64 (i : Int) := by rw [ht4, put_ne (by decide), put_ne (by decide)]; exact h33
    have h18 : t4.eval (.tmp 18) = .bool false := by
      show t4.tmps.getD 18 undef = _
      rw [ht4]
      exact put_eq' (by rw [(ha3.put (by decide) (by decide)).sz]; decide)
    rw [← ht4]
    show (Code.cond (.tmp 18) .ret .skip).wpIn Fence.wide n P _ t4 W4
    refine wpIn_cond_false h18 (wpIn_skip ?_)
    show Q2.wpIn Fence.wide n P _ t4 W4
    have hsc' : scan K v.dd v.id v.day i = some o := hsc
    have fin2 : ∀ b, (fI c l D W4) b → b < 2 := fun b hb => hb
    have hc3 : RelC (fI c l D W4) (gI x) (sI y (.val (.int .i64 (i : Int))) v.dd).mem W4 (.val (.int .i64 (i : Int))) (t4.tmps.getD 3 undef) := h34
    have e2 := (den2_eq _).symm.trans (T2_eq K y (i : Int) v.dd)
    unfold T2 at e2
    rw [T.den_bind] at e2
    cases hq2 : (runC P (env K) lenv0 Q2 (sI y (.val (.int .i64 (i : Int))) v.dd)).den with
    | none => rw [hq2] at e2; cases e2
    | some z =>
    obtain ⟨ee, s5⟩ := z
    rw [hq2] at e2
    simp only [Option.bind_some] at e2
    cases ee with
    | exit => exact (den_fail e2).elim
    | ret => exact (den_fail e2).elim
    | pan => exact (den_fail e2).elim
    | normal =>
    obtain ⟨kv, hk5, e2⟩ := den_opt e2
    obtain rfl : kv = (y, .int .i64 (IntKind.i64.wrap ((i : Int) - 1))) := by simpa [T.den] using e2
    refine wpIn_mono (runC_in (r := none) (n := n) (env__prod_Catalogue_List_ok K) Q2 flat_Q2 _ _ _ hq2 (fun t m e => by cases e) ⟨zR c l D W4, fun _ => False, []⟩ W4 _ W4 (fI c l D W4) (gI x) (it_rel x hJ4 hlw hDw ha4 hc3) fin2) ?_
    rintro ex t5 W5 ⟨rfl, F5, γ5, R5, hF5, hx5⟩
    obtain ⟨hJ5, hl5, hD5, ha5, h35⟩ := it_back x hJ4 hlw hDw hl4 hD4 R5 hx5 hk5
    have ew : IntKind.i64.wrap ((i : Int) - 1) = (i : Int) - 1 := wrap_in (by omega) (by omega)
    refine ⟨⟨i, hJ5, hl5, hD5, ha5, by rw [h35, ew], hsc', by omega⟩, ?_⟩
    simp only [h35, h3, ew]
    omega
  | inr r =>
    obtain rfl : Sum.inr r = o := by simpa using hsc
    obtain ⟨rfl, hd4, hl4, hD4⟩ := hr
    refine ⟨false, rfl, hK1 _ _ (wpListIn_plain opN_eq.2.1 fun K2 hK2 => notIn (b := false) (put_eq' (by rw [ha3.sz]; decide)) (hK2 _ _ (wpListIn_nil ?_)))⟩
    obtain ⟨t4, ht4⟩ : ∃ t4, t4 = (t3.put (some 17) (.bool false)).put (some 18) (.bool (!false)) := ⟨_, rfl⟩
    have ha4 : Ia x y t4 := ht4 ▸ (ha3.put (by decide) (by decide)).put (by decide) (by decide)
    have h18 : t4.eval (.tmp 18) = .bool true := by
      show t4.tmps.getD 18 undef = _
      rw [ht4]
      exact put_eq' (by rw [(ha3.put (by decide) (by decide)).sz]; decide)
    rw [← ht4]
    show (Code.cond (.tmp 18) .ret .skip).wpIn Fence.wide n P _ t4 W4
    refine wpIn_cond_true h18 (wpIn_ret ?_)
    exact ⟨ha4.df, _, results_none rfl _ _ _, ⟨_, rfl⟩, hd4, hl4, hD4⟩
end At
end
end Go.Proofs.Ytmmaechogibodaa.F
