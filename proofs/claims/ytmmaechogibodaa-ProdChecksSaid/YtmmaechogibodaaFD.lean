import Derived.WalkKit
import Derived.TacticsInMore
import Derived.RegionIn
import Derived.Shelf.Abstract
import Derived.Test.YtmmaechogibodaaVmY
import Derived.Test.YtmmaechogibodaaVmRc
import Derived.Test.YtmmaechogibodaaVmCl
import Derived.Test.YtmmaechogibodaaProg
import Derived.Test.YtmmaechogibodaaVmRg
import Derived.Test.YtmmaechogibodaaFA
import Derived.Test.YtmmaechogibodaaFB
import Derived.Test.YtmmaechogibodaaFV
import Derived.Test.YtmmaechogibodaaFC
namespace Go.Proofs.Ytmmaechogibodaa.F
open Go Go.Proofs.Ytmmaechogibodaa.Vm
set_option maxRecDepth 1000000
set_option linter.unusedVariables false
set_option linter.unusedSimpArgs false
noncomputable section
-- (*passbook/prod.Catalogue).At: by hand (a range over slices.Backward)
namespace At
noncomputable abbrev P : Program := Go.Proofs.Try.prog
noncomputable abbrev env (K : Nat) := env__prod_Catalogue_List K
noncomputable abbrev Lp : List Sh := [.int .i64, .int .i64, .int .i64, .int .i64, .int .i64, .int .i64, .int .i64, .int .i64, .sl [.int .i64, .int .i64]]
noncomputable def sq1 : Code → Code
  | .seq a _ => a
  | c => c
noncomputable def sq2 : Code → Code
  | .seq _ b => b
  | c => c
noncomputable def blkC : Code → Code
  | .block _ c => c
  | c => c
noncomputable def asgC : Code → Code
  | .rangeFunc _ _ a _ => a
  | c => c
noncomputable def bdyC : Code → Code
  | .rangeFunc _ _ _ b => b
  | c => c
noncomputable def opsC : Code → Array Oper
  | .region _ ops _ => ops
  | _ => #[]
noncomputable abbrev b19 : Code := bodyOf Go.Proofs.Try.f19
noncomputable def R0 : Code := sq1 b19
noncomputable def C1 : Code := sq1 (sq2 b19)
noncomputable def C2 : Code := sq1 (sq2 (sq2 b19))
noncomputable def X3 : Code := sq2 (sq2 (sq2 b19))
noncomputable def R5 : Code := sq1 (sq1 X3)
noncomputable def RF : Code := blkC (sq2 (sq1 X3))
noncomputable def X4 : Code := sq2 X3
noncomputable def asg : Code := asgC RF
noncomputable def bdy : Code := bdyC RF
noncomputable def ops5 : Array Oper := opsC R5
theorem b19_eq : b19 = .seq R0 (.seq C1 (.seq C2 (.seq (.seq R5 (.block 0 (.rangeFunc (.tmp 24) #[25, 26] asg bdy))) X4))) := by kernel_rfl
theorem R5_eq : R5 = .region 5 ops5 false := by kernel_rfl
noncomputable def v64 : Value → Option Int
  | .int k x => if k = .i64 then some x else none
  | _ => none
noncomputable def isNil : Value → Bool
  | .slice none a b => a == 0 && b == 0
  | _ => false
noncomputable def isI0 (v : Value) : Bool := match v64 v with | some x => decide (x = 0) | none => false
noncomputable def zs : Nat → List CV → Bool
  | 0, [.val v] => isNil v
  | n + 1, .val v :: l => isI0 v && zs n l
  | _, _ => false
noncomputable def isZ (l : List CV) : Bool := zs 8 l
noncomputable def isZ1 : List CV → Bool
  | [.val v] => isI0 v
  | _ => false
noncomputable def one64 : List CV → Option Int
  | [.val v] => v64 v
  | _ => none
noncomputable def ints : Nat → List CV → Option (List Int × Nat)
  | 0, [.slf b] => some ([], b)
  | n + 1, .val v :: l => match v64 v, ints n l with | some x, some (xs, b) => some (x :: xs, b) | _, _ => none
  | _, _ => none
noncomputable def z6 : List CV := [.val (.int .i64 0), .val (.int .i64 0), .val (.int .i64 0), .val (.int .i64 0), .val (.int .i64 0), .val (.int .i64 0), .val (.int .i64 0), .val (.int .i64 0), .val (.slice none 0 0)]
noncomputable def z7 : List CV := [.val (.int .i64 0)]
theorem v64_spec {v : Value} {x : Int} (h : v64 v = some x) : v = .int .i64 x := by
  unfold v64 at h
  split at h
  · split at h
    · rename_i e; obtain rfl := Option.some.inj h; rw [e]
    · cases h
  · cases h
theorem isI0_spec {v : Value} (h : isI0 v = true) : v = .int .i64 0 := by
  unfold isI0 at h
  split at h
  · rename_i x e
    rw [v64_spec e, show x = 0 by simpa using h]
  · cases h
theorem isNil_spec {v : Value} (h : isNil v = true) : v = .slice none 0 0 := by
  unfold isNil at h
  split at h
  · simp at h; rw [h.1, h.2]
  · cases h
theorem zs_spec : ∀ {n : Nat} {l : List CV}, zs n l = true → l = List.replicate n (.val (.int .i64 0)) ++ [.val (.slice none 0 0)]
  | 0, [.val v], h => by rw [isNil_spec h]; rfl
  | n + 1, .val v :: l, h => by
    simp only [zs, Bool.and_eq_true] at h
    rw [isI0_spec h.1, zs_spec h.2]; rfl
  | 0, [], h => by simp [zs] at h
  | 0, _ :: _ :: _, h => by simp [zs] at h
  | n + 1, [], h => by simp [zs] at h
  | 0, [.ptr ..], h => by simp [zs] at h
  | 0, [.slf ..], h => by simp [zs] at h
  | 0, [.slc ..], h => by simp [zs] at h
  | 0, [.ro ..], h => by simp [zs] at h
  | 0, [.rop ..], h => by simp [zs] at h
  | 0, [.mapr ..], h => by simp [zs] at h
  | 0, [.mptr ..], h => by simp [zs] at h
  | 0, [.dt ..], h => by simp [zs] at h
  | 0, [.any], h => by simp [zs] at h
  | n + 1, .ptr .. :: _, h => by simp [zs] at h
  | n + 1, .slf .. :: _, h => by simp [zs] at h
  | n + 1, .slc .. :: _, h => by simp [zs] at h
  | n + 1, .ro .. :: _, h => by simp [zs] at h
  | n + 1, .rop .. :: _, h => by simp [zs] at h
  | n + 1, .mapr .. :: _, h => by simp [zs] at h
  | n + 1, .mptr .. :: _, h => by simp [zs] at h
  | n + 1, .dt .. :: _, h => by simp [zs] at h
  | n + 1, .any :: _, h => by simp [zs] at h
theorem isZ_spec {c : List CV} (h : isZ c = true) : c = z6 := zs_spec h
theorem isZ1_spec {c : List CV} (h : isZ1 c = true) : c = z7 := by
  unfold isZ1 at h
  split at h
  · rw [isI0_spec h]; rfl
  · cases h
theorem one64_spec {c : List CV} {x : Int} (h : one64 c = some x) : c = [.val (.int .i64 x)] := by
  unfold one64 at h
  split at h
  · rw [v64_spec h]
  · cases h
theorem ints_spec : ∀ {n : Nat} {l : List CV} {xs : List Int} {b : Nat}, ints n l = some (xs, b) → l = xs.map (fun x => .val (.int .i64 x)) ++ [.slf b] ∧ xs.length = n
  | 0, [.slf b'], xs, b, h => by
    simp only [ints, Option.some.injEq, Prod.mk.injEq] at h
    obtain ⟨rfl, rfl⟩ := h
    exact ⟨rfl, rfl⟩
  | n + 1, .val v :: l, xs, b, h => by
    simp only [ints] at h
    split at h
    · rename_i x ys b' hv hl
      simp only [Option.some.injEq, Prod.mk.injEq] at h
      obtain ⟨rfl, rfl⟩ := h
      obtain ⟨h1, h2⟩ := ints_spec hl
      exact ⟨by rw [v64_spec hv, h1]; rfl, by simp [h2]⟩
    · cases h
  | 0, [], xs, b, h => by simp [ints] at h
  | 0, _ :: _ :: _, xs, b, h => by simp [ints] at h
  | n + 1, [], xs, b, h => by simp [ints] at h
  | 0, [.val ..], xs, b, h => by simp [ints] at h
  | 0, [.ptr ..], xs, b, h => by simp [ints] at h
  | 0, [.slc ..], xs, b, h => by simp [ints] at h
  | 0, [.ro ..], xs, b, h => by simp [ints] at h
  | 0, [.rop ..], xs, b, h => by simp [ints] at h
  | 0, [.mapr ..], xs, b, h => by simp [ints] at h
  | 0, [.mptr ..], xs, b, h => by simp [ints] at h
  | 0, [.dt ..], xs, b, h => by simp [ints] at h
  | 0, [.any], xs, b, h => by simp [ints] at h
  | n + 1, .ptr .. :: _, xs, b, h => by simp [ints] at h
  | n + 1, .slf .. :: _, xs, b, h => by simp [ints] at h
  | n + 1, .slc .. :: _, xs, b, h => by simp [ints] at h
  | n + 1, .ro .. :: _, xs, b, h => by simp [ints] at h
  | n + 1, .rop .. :: _, xs, b, h => by simp [ints] at h
  | n + 1, .mapr .. :: _, xs, b, h => by simp [ints] at h
  | n + 1, .mptr .. :: _, xs, b, h => by simp [ints] at h
  | n + 1, .dt .. :: _, xs, b, h => by simp [ints] at h
  | n + 1, .any :: _, xs, b, h => by simp [ints] at h
structure Seen where
  bl : Nat
  b4 : Nat
  b5 : Nat
  b6 : Nat
  b7 : Nat
  dd : List (List D)
  id : Int
  day : Int
noncomputable def ne (a b : Nat) : Bool := !(a == b)
/-- What stands in the state ahead of the range. -/
noncomputable def see (s : St) : Option Seen :=
  match nth undefS s.tmps 23, nth undefS s.tmps 4, nth undefS s.tmps 5, nth undefS s.tmps 6, nth undefS s.tmps 7 with
  | .pv (.one (.slf bl)), .pv (.one (.ptr b4 0 0 0)), .pv (.one (.ptr b5 0 0 0)), .pv (.one (.ptr b6 0 0 0)), .pv (.one (.ptr b7 0 0 0)) =>
    match s.mem bl, s.mem b4, s.mem b5, s.mem b6, s.mem b7 with
    | some ⟨_, .grow L dd⟩, some ⟨_, .cells c4⟩, some ⟨_, .cells c5⟩, some ⟨true, .cells c6⟩, some ⟨true, .cells c7⟩ =>
      match one64 c4, one64 c5, shsEq L Lp && isZ c6 && isZ1 c7 && ne b6 b4 && ne b6 b5 && ne b6 b7 && ne b6 bl && ne b7 b4 && ne b7 b5 && ne b7 bl && (len s.tmps == 40) with
      | some id, some day, true => some ⟨bl, b4, b5, b6, b7, dd, id, day⟩
      | _, _, _ => none
    | _, _, _, _, _ => none
  | _, _, _, _, _ => none
/-- The state in a round. -/
noncomputable def sR (i : Int) (row : List D) (id day : Int) : St :=
  ⟨put (put (put (put (put (put (List.replicate 40 anyS) 4 (.pv (.one (.ptr 0 0 0 0)))) 5 (.pv (.one (.ptr 1 0 0 0)))) 6 (.pv (.one (.ptr 2 0 0 0)))) 7 (.pv (.one (.ptr 3 0 0 0)))) 25 (.pv (.one (.val (.int .i64 i))))) 26 (.pv (.agg (cvsL Lp row 0))),
   memOf [⟨false, .cells [.val (.int .i64 id)]⟩, ⟨false, .cells [.val (.int .i64 day)]⟩, ⟨true, .cells z6⟩, ⟨true, .cells z7⟩], 4, []⟩
noncomputable abbrev R9 := List Int × List (List Int)
noncomputable def rest_ (s : St) : Bool := match s.mem 2, s.mem 3 with
  | some ⟨true, .cells c⟩, some ⟨true, .cells d⟩ => isZ c && isZ1 d
  | _, _ => false
noncomputable def got (s : St) : Option (Nat × R9) := match s.mem 2, s.mem 3 with
  | some ⟨true, .cells c⟩, some ⟨true, .cells d⟩ => match ints 8 c, isZ1 d with
    | some (xs, bn), true => match ne bn 2 && ne bn 3, s.mem bn with
      | true, some ⟨true, .recs ks ts⟩ => if ks = [.i64, .i64] then some (bn, (xs, ts)) else none
      | _, _ => none
    | _, _ => none
  | _, _ => none
/-- One round. -/
noncomputable def rndT (K : Nat) (i : Int) (row : List D) (id day : Int) : T (Unit ⊕ R9) :=
  (runC P (env K) lenv0 asg (sR i row id day)).bind fun x => match x with
    | (.normal, s1) => (runC P (env K) lenv0 bdy s1).bind fun x => match x with
      | (.normal, s2) => match rest_ s2 with | true => .ret (.inl ()) | false => .fail
      | (.ret, s2) => match got s2 with | some r => .ret (.inr r.2) | none => .fail
      | _ => .fail
    | _ => .fail
noncomputable def rnd (K : Nat) (i : Int) (row : List D) (id day : Int) : Option (Unit ⊕ R9) :=
  bi ((nth d0 row 0).toI == id) (bi (decide ((nth d0 row 3).toI ≤ day))
    ((prod_copied_ro K (nth d0 row 0).toI (nth d0 row 1).toI (nth d0 row 2).toI (nth d0 row 3).toI (nth d0 row 4).toI (nth d0 row 5).toI (nth d0 row 6).toI (nth d0 row 7).toI (nth d0 row 8).toL).bind fun r => some (.inr ([r.1, r.2.1, r.2.2.1, r.2.2.2.1, r.2.2.2.2.1, r.2.2.2.2.2.1, r.2.2.2.2.2.2.1, r.2.2.2.2.2.2.2.1], r.2.2.2.2.2.2.2.2)))
    (some (.inl ()))) (some (.inl ()))
theorem rnd_eq (K : Nat) (i : Int) (row : List D) (id day : Int) : (rndT K i row id day).den2 = rnd K i row id day := by kernel_rfl
/-- The rounds, from the last member on. -/
noncomputable def scan (K : Nat) (dd : List (List D)) (id day : Int) : Nat → Option (Unit ⊕ R9)
  | 0 => some (.inl ())
  | i + 1 => (rnd K (i : Int) (nth [] dd i) id day).bind fun x => match x with
    | .inl _ => scan K dd id day i
    | .inr r => some (.inr r)
noncomputable def args : List PP := [.ptr [.grow Lp, .map [.i64, .i64] [.i64]], .one (.int .i64), .one (.int .i64)]
noncomputable def res : List PP := [.agg [.int .i64, .int .i64, .int .i64, .int .i64, .int .i64, .int .i64, .int .i64, .int .i64, .recs [.i64, .i64] true], .one (.int .i64)]
noncomputable abbrev RT := R9 × Int × List (List D) × List (List Int × List Int)
noncomputable def dec : List U → Option RT := fun u => match u with
  | [.i x0, .i x1, .i x2, .i x3, .i x4, .i x5, .i x6, .i x7, .rr t, .i e, .d dd, .m m] => some (([x0, x1, x2, x3, x4, x5, x6, x7], t), e, dd, m)
  | _ => none
noncomputable def enc : RT → List U := fun r => [.i (nth 0 r.1.1 0), .i (nth 0 r.1.1 1), .i (nth 0 r.1.1 2), .i (nth 0 r.1.1 3), .i (nth 0 r.1.1 4), .i (nth 0 r.1.1 5), .i (nth 0 r.1.1 6), .i (nth 0 r.1.1 7), .rr r.1.2, .i r.2.1, .d r.2.2.1, .m r.2.2.2]
noncomputable def fin (us : List U) (s : St) : T RT := match mkPs 0 args us with
  | some (_, es, _) => (resPVs P s Go.Proofs.Try.f19.results.toList).bind fun vs => endFs es args res dec s vs
  | none => .fail
/-- The state behind a round that answers. -/
noncomputable def sF (s : St) (v : Seen) (r : R9) : St :=
  { s with mem := updM s.mem [(v.b6, some ⟨true, .cells [.val (.int .i64 (nth 0 r.1 0)), .val (.int .i64 (nth 0 r.1 1)), .val (.int .i64 (nth 0 r.1 2)), .val (.int .i64 (nth 0 r.1 3)), .val (.int .i64 (nth 0 r.1 4)), .val (.int .i64 (nth 0 r.1 5)), .val (.int .i64 (nth 0 r.1 6)), .val (.int .i64 (nth 0 r.1 7)), .slf s.nx]⟩), (v.b7, some ⟨true, .cells [.val (.int .i64 0)]⟩), (s.nx, some ⟨true, .recs [.i64, .i64] r.2⟩)], nx := s.nx + 64 }
noncomputable def midT (K : Nat) (us : List U) (s : St) : T RT := match see s with
  | none => .fail
  | some v => T.req (decide (v.dd.length < 4611686018427387904)) (.cas (scan K v.dd v.id v.day v.dd.length)
      (fun _ => (runC P (env K) lenv0 X4 s).bind fun x => match x with | (.ret, s1) => fin us s1 | _ => .fail)
      (fun r => fin us (sF s v r)))
noncomputable def atT (K : Nat) (us : List U) : T RT := match mkPs 0 args us with
  | some (ps, es, []) => (runC P (env K) lenv0 R0 ⟨ps.map .pv ++ List.replicate (Go.Proofs.Try.f19.ntmps - len ps) undefS, memOf es, len es, rootIds 0 args⟩).bind fun x => match x with
    | (.normal, s1) => (runC P (env K) lenv0 C1 s1).bind fun x => match x with
      | (.ret, s2) => fin us s2
      | (.normal, s2) => (runC P (env K) lenv0 C2 s2).bind fun x => match x with
        | (.ret, s3) => fin us s3
        | (.normal, s3) => (runLX P (env K) ops5.toList s3.nx (ops5.toList.take 4) 0 s3).bind fun x => match x with
          | (.normal, s4) => midT K us { s4 with tmps := put s4.tmps 24 anyS }
          | _ => .fail
        | _ => .fail
      | _ => .fail
    | _ => .fail
  | _ => .fail
end At
noncomputable def _prod_Catalogue_At (K : Nat) (dd0_0 : List (List D)) (m0_1 : List (List Int × List Int)) (x1 x2 : Int) : Option At.RT :=
  bi (decide (x2 < 1)) (some (([0, 0, 0, 0, 0, 0, 0, 0], []), 1, dd0_0, m0_1))
    (bi (decide (x2 > 3652059)) (some (([0, 0, 0, 0, 0, 0, 0, 0], []), 1, dd0_0, m0_1))
      (bi (decide (dd0_0.length < 4611686018427387904)) (casO (At.scan K dd0_0 x1 x2 dd0_0.length) (fun _ => some (([0, 0, 0, 0, 0, 0, 0, 0], []), 7, dd0_0, m0_1))
        (fun r => some (([nth 0 r.1 0, nth 0 r.1 1, nth 0 r.1 2, nth 0 r.1 3, nth 0 r.1 4, nth 0 r.1 5, nth 0 r.1 6, nth 0 r.1 7], r.2), 0, dd0_0, m0_1))) none))
theorem _prod_Catalogue_At_eq (K : Nat) (dd0_0 : List (List D)) (m0_1 : List (List Int × List Int)) (x1 x2 : Int) : (At.atT K [.d dd0_0, .m m0_1, .i x1, .i x2]).den2 = _prod_Catalogue_At K dd0_0 m0_1 x1 x2 := by kernel_rfl
namespace At
variable {F : NS} {γ : GM} {s : St} {a : Act} {ws : World} {A : Ctx} {w0 : World}
/-- What is known where the range begins. -/
structure Cx (F : NS) (γ : GM) (s : St) (a : Act) (ws : World) (v : Seen) where
  g4 : Nat
  p4 : Nat
  g5 : Nat
  p5 : Nat
  g6 : Nat
  p6 : Nat
  g7 : Nat
  p7 : Nat
  c4 : γ v.b4 = some (g4, p4)
  c5 : γ v.b5 = some (g5, p5)
  c6 : γ v.b6 = some (g6, p6)
  c7 : γ v.b7 = some (g7, p7)
  t4 : a.tmps.getD 4 undef = .pointer (some ⟨g4, p4 + (0 * 0 + 0), none⟩)
  t5 : a.tmps.getD 5 undef = .pointer (some ⟨g5, p5 + (0 * 0 + 0), none⟩)
  t6 : a.tmps.getD 6 undef = .pointer (some ⟨g6, p6 + (0 * 0 + 0), none⟩)
  t7 : a.tmps.getD 7 undef = .pointer (some ⟨g7, p7 + (0 * 0 + 0), none⟩)
  sz : a.tmps.size = 40
  l4 : g4 < ws.heap.size
  l5 : g5 < ws.heap.size
  l6 : g6 < ws.heap.size
  l7 : g7 < ws.heap.size
  n64 : g6 ≠ g4
  n65 : g6 ≠ g5
  n67 : g6 ≠ g7
  n74 : g7 ≠ g4
  n75 : g7 ≠ g5
  r4 : RelB F γ s.mem ws v.b4 (.cells [.val (.int .i64 v.id)])
  r5 : RelB F γ s.mem ws v.b5 (.cells [.val (.int .i64 v.day)])
  r6 : RelB F γ s.mem ws v.b6 (.cells z6)
  r7 : RelB F γ s.mem ws v.b7 (.cells z7)
  f6 : nofr ws g6
  f7 : nofr ws g7
  zl : ∀ g, F.z g → g < ws.heap.size ∧ g ≠ g6 ∧ g ≠ g7
/-- The blocks that may be written. -/
def Cx.I {v : Seen} (c : Cx F γ s a ws v) (g : Nat) : Prop := g = c.g6 ∨ g = c.g7
structure J {v : Seen} (c : Cx F γ s a ws v) (W : World) : Prop where
  bel : Bel c.I ws.heap.size ws W
  r6 : RelB F γ s.mem W v.b6 (.cells z6)
  r7 : RelB F γ s.mem W v.b7 (.cells z7)
  f6 : nofr W c.g6
  f7 : nofr W c.g7
theorem J.start {v : Seen} (c : Cx F γ s a ws v) : J c ws := ⟨Bel.refl _ ws, c.r6, c.r7, c.f6, c.f7⟩
theorem J.later {v : Seen} {c : Cx F γ s a ws v} {W W' : World} (h : J c W) (hB : Bel (fun g => ws.heap.size ≤ g) W.heap.size W W') : J c W' := by
  have h1 := h.bel.size
  have s6 : W'.heap[c.g6]? = W.heap[c.g6]? := hB.block _ (by have := c.l6; omega) (by have := c.l6; omega)
  have s7 : W'.heap[c.g7]? = W.heap[c.g7]? := hB.block _ (by have := c.l7; omega) (by have := c.l7; omega)
  exact ⟨h.bel.call hB h1 fun g hg => .inl hg,
    relB_vals rfl rfl (fun g base hg => by rw [c.c6] at hg; cases hg; exact s6) h.r6,
    relB_vals rfl rfl (fun g base hg => by rw [c.c7] at hg; cases hg; exact s7) h.r7, h.f6.of s6, h.f7.of s7⟩
/-- The names within a round. -/
def gR {v : Seen} (c : Cx F γ s a ws v) : GM := fun b => match b with
  | 0 => some (c.g4, c.p4)
  | 1 => some (c.g5, c.p5)
  | 2 => some (c.g6, c.p6)
  | 3 => some (c.g7, c.p7)
  | _ => none
/-- Looked at and not written: all but two. -/
def zR {v : Seen} (c : Cx F γ s a ws v) (l D : Nat) (W : World) (g : Nat) : Prop := g < W.heap.size ∧ g ≠ c.g6 ∧ g ≠ c.g7 ∧ g ≠ l ∧ g ≠ D
def fR {v : Seen} (c : Cx F γ s a ws v) (l D : Nat) (W : World) : NS := ⟨fun b => b < 4, zR c l D W⟩
theorem round_mem {v : Seen} {c : Cx F γ s a ws v} {W : World} (h : J c W) {l D : Nat} (hlw : ws.heap.size ≤ l) (hDw : ws.heap.size ≤ D) (i : Int) (row : List Vm.D) : Mem ⟨zR c l D W, c.I, []⟩ W (fR c l D W) (gR c) (sR i row v.id v.day).mem [] W := by
  have h1 := h.bel.size
  have e4 : W.heap[c.g4]? = ws.heap[c.g4]? := h.bel.block _ c.l4 (fun hh => hh.elim (fun e => c.n64 e.symm) fun e => c.n74 e.symm)
  have e5 : W.heap[c.g5]? = ws.heap[c.g5]? := h.bel.block _ c.l5 (fun hh => hh.elim (fun e => c.n65 e.symm) fun e => c.n75 e.symm)
  have hmem : ∀ b e, (sR i row v.id v.day).mem b = some e → (b = 0 ∧ e = ⟨false, .cells [.val (.int .i64 v.id)]⟩) ∨ (b = 1 ∧ e = ⟨false, .cells [.val (.int .i64 v.day)]⟩) ∨ (b = 2 ∧ e = ⟨true, .cells z6⟩) ∨ (b = 3 ∧ e = ⟨true, .cells z7⟩) := fun b e hb => by
    have hb : memOf [⟨false, .cells [.val (.int .i64 v.id)]⟩, ⟨false, .cells [.val (.int .i64 v.day)]⟩, ⟨true, .cells z6⟩, ⟨true, .cells z7⟩] b = some e := hb
    match b, hb with
    | 0, hb => exact .inl ⟨rfl, (Option.some.inj hb).symm⟩
    | 1, hb => exact .inr (.inl ⟨rfl, (Option.some.inj hb).symm⟩)
    | 2, hb => exact .inr (.inr (.inl ⟨rfl, (Option.some.inj hb).symm⟩))
    | 3, hb => exact .inr (.inr (.inr ⟨rfl, (Option.some.inj hb).symm⟩))
    | b + 4, hb => simp [memOf] at hb
  have im : ∀ b e g base, (sR i row v.id v.day).mem b = some e → gR c b = some (g, base) → (b = 0 ∧ g = c.g4) ∨ (b = 1 ∧ g = c.g5) ∨ (b = 2 ∧ g = c.g6) ∨ (b = 3 ∧ g = c.g7) := fun b e g base hb hg => by
    rcases hmem b e hb with ⟨rfl, -⟩ | ⟨rfl, -⟩ | ⟨rfl, -⟩ | ⟨rfl, -⟩ <;> simp only [gR, Option.some.injEq, Prod.mk.injEq] at hg <;> simp [hg.1.symm]
  refine view_mem (N := 4) (fun b e hb => ?_) (fun b e g base hb ho hg => ?_) (fun b e g base hb ho hg => ?_) (fun b e g base hb hg => ?_) (fun b o kk vk es hb => ?_) (fun g hz => ?_)
  · rcases hmem b e hb with ⟨rfl, rfl⟩ | ⟨rfl, rfl⟩ | ⟨rfl, rfl⟩ | ⟨rfl, rfl⟩
    · exact ⟨by decide, relB_vals rfl c.c4.symm (fun g base hg => by rw [c.c4] at hg; cases hg; exact e4) c.r4⟩
    · exact ⟨by decide, relB_vals rfl c.c5.symm (fun g base hg => by rw [c.c5] at hg; cases hg; exact e5) c.r5⟩
    · exact ⟨by decide, relB_vals rfl c.c6.symm (fun g base hg => rfl) h.r6⟩
    · exact ⟨by decide, relB_vals rfl c.c7.symm (fun g base hg => rfl) h.r7⟩
  · have hb2 := hmem b e hb
    have n := c.n64; have n2 := c.n65; have n3 := c.n67; have n4 := c.n74; have n5 := c.n75
    rcases im b e g base hb hg with ⟨rfl, rfl⟩ | ⟨rfl, rfl⟩ | ⟨rfl, rfl⟩ | ⟨rfl, rfl⟩
    · rcases hb2 with ⟨_, rfl⟩ | ⟨k, _⟩ | ⟨k, _⟩ | ⟨k, _⟩
      · cases ho
      all_goals omega
    · rcases hb2 with ⟨k, _⟩ | ⟨_, rfl⟩ | ⟨k, _⟩ | ⟨k, _⟩
      · omega
      · cases ho
      all_goals omega
    · refine ⟨.inl rfl, h.f6, fun hz => hz.2.1 rfl, fun b' e' g' base' hne hb' hg' => ?_⟩
      rcases im b' e' g' base' hb' hg' with ⟨rfl, rfl⟩ | ⟨rfl, rfl⟩ | ⟨rfl, rfl⟩ | ⟨rfl, rfl⟩ <;> omega
    · refine ⟨.inr rfl, h.f7, fun hz => hz.2.2.1 rfl, fun b' e' g' base' hne hb' hg' => ?_⟩
      rcases im b' e' g' base' hb' hg' with ⟨rfl, rfl⟩ | ⟨rfl, rfl⟩ | ⟨rfl, rfl⟩ | ⟨rfl, rfl⟩ <;> omega
  · have hb2 := hmem b e hb
    have n := c.n64; have n2 := c.n65; have n3 := c.n67; have n4 := c.n74; have n5 := c.n75
    rcases im b e g base hb hg with ⟨rfl, rfl⟩ | ⟨rfl, rfl⟩ | ⟨rfl, rfl⟩ | ⟨rfl, rfl⟩
    · have := c.l4; exact ⟨by omega, by omega, by omega, by omega, by omega⟩
    · have := c.l5; exact ⟨by omega, by omega, by omega, by omega, by omega⟩
    · rcases hb2 with ⟨k, _⟩ | ⟨k, _⟩ | ⟨_, rfl⟩ | ⟨k, _⟩
      · omega
      · omega
      · cases ho
      · omega
    · rcases hb2 with ⟨k, _⟩ | ⟨k, _⟩ | ⟨k, _⟩ | ⟨_, rfl⟩
      · omega
      · omega
      · omega
      · cases ho
  · have q4 := c.l4; have q5 := c.l5; have q6 := c.l6; have q7 := c.l7
    rcases im b e g base hb hg with ⟨rfl, rfl⟩ | ⟨rfl, rfl⟩ | ⟨rfl, rfl⟩ | ⟨rfl, rfl⟩ <;> omega
  · rcases hmem b _ hb with ⟨_, e⟩ | ⟨_, e⟩ | ⟨_, e⟩ | ⟨_, e⟩ <;> cases e
  · exact hz.1
theorem getD_set (t : Array Value) (i j : Nat) (x d : Value) (h : i < t.size) : (t.setIfInBounds i x).getD j d = if i = j then x else t.getD j d := by
  rw [Array.getD_eq_getD_getElem?, Array.getD_eq_getD_getElem?, Array.getElem?_setIfInBounds]
  by_cases e : i = j
  · subst e; rw [if_pos rfl, if_pos rfl, if_pos h]; rfl
  · rw [if_neg e, if_neg e]
/-- The state within a round. -/
theorem round_rel {v : Seen} {c : Cx F γ s a ws v} {W : World} (h : J c W) {l D : Nat} (hlw : ws.heap.size ≤ l) (hDw : ws.heap.size ≤ D) {i : Int} {row : List Vm.D} {C : Array Value} (hC : All2 (RelC (fR c l D W) (gR c) (sR i row v.id v.day).mem W) (cvsL Lp row 0) C.toList) :
    Rel ⟨zR c l D W, c.I, []⟩ W (fR c l D W) (gR c) (sR i row v.id v.day) { tmps := (a.tmps.setIfInBounds 25 (.int .i64 i)).setIfInBounds 26 (.agg C), defers := [] } W := by
  have hs := c.sz
  refine { round_mem h hlw hDw i row with defers := rfl, size := by simp [sR, put_eq, hs], slots := fun t => ?_ }
  have hd : (({ tmps := (a.tmps.setIfInBounds 25 (.int .i64 i)).setIfInBounds 26 (.agg C), defers := [] } : Act).tmps.getD t undef) = if 26 = t then .agg C else if 25 = t then .int .i64 i else a.tmps.getD t undef := by
    show ((a.tmps.setIfInBounds 25 (.int .i64 i)).setIfInBounds 26 (.agg C)).getD t undef = _
    rw [getD_set _ _ _ _ _ (by simp [hs]), getD_set _ _ _ _ _ (by rw [hs]; decide)]
  rw [hd]
  by_cases t26 : t = 26
  · subst t26
    rw [if_pos rfl]
    show RelV _ _ _ _ (.pv (.agg (cvsL Lp row 0))) _
    exact ⟨C, rfl, hC⟩
  rw [if_neg (fun e => t26 e.symm)]
  by_cases t25 : t = 25
  · subst t25
    rw [if_pos rfl]
    show RelV _ _ _ _ (.pv (.one (.val (.int .i64 i)))) _
    rfl
  rw [if_neg (fun e => t25 e.symm)]
  by_cases t7 : t = 7
  · subst t7
    show RelV _ _ _ _ (.pv (.one (.ptr 3 0 0 0))) _
    exact ⟨by show (3 : Nat) < 4; decide, ⟨c.g7, c.p7, rfl, c.t7⟩, fun e he => by obtain rfl := Option.some.inj he; exact ⟨rfl, rfl⟩⟩
  by_cases t6 : t = 6
  · subst t6
    show RelV _ _ _ _ (.pv (.one (.ptr 2 0 0 0))) _
    exact ⟨by show (2 : Nat) < 4; decide, ⟨c.g6, c.p6, rfl, c.t6⟩, fun e he => by obtain rfl := Option.some.inj he; exact ⟨rfl, rfl⟩⟩
  by_cases t5 : t = 5
  · subst t5
    show RelV _ _ _ _ (.pv (.one (.ptr 1 0 0 0))) _
    exact ⟨by show (1 : Nat) < 4; decide, ⟨c.g5, c.p5, rfl, c.t5⟩, fun e he => by obtain rfl := Option.some.inj he; exact ⟨rfl, rfl⟩⟩
  by_cases t4 : t = 4
  · subst t4
    show RelV _ _ _ _ (.pv (.one (.ptr 0 0 0 0))) _
    exact ⟨by show (0 : Nat) < 4; decide, ⟨c.g4, c.p4, rfl, c.t4⟩, fun e he => by obtain rfl := Option.some.inj he; exact ⟨rfl, rfl⟩⟩
  have hn : nth undefS (sR i row v.id v.day).tmps t = nth undefS (List.replicate 40 anyS) t := by
    show nth undefS (put (put (put (put (put (put (List.replicate 40 anyS) 4 _) 5 _) 6 _) 7 _) 25 _) 26 _) t = _
    rw [nth_put, if_neg (fun e => t26 e.1), nth_put, if_neg (fun e => t25 e.1), nth_put, if_neg (fun e => t7 e.1), nth_put, if_neg (fun e => t6 e.1), nth_put, if_neg (fun e => t5 e.1), nth_put, if_neg (fun e => t4 e.1)]
  rw [hn, nth_eq, List.getD_eq_getElem?_getD, List.getElem?_replicate]
  split
  · exact trivial
  · rename_i ht
    have : a.tmps.getD t undef = undef := by rw [Array.getD_eq_getD_getElem?, Array.getElem?_eq_none (by omega)]; rfl
    rw [this]; rfl
end At
namespace At
variable {F : NS} {γ : GM} {s : St} {a : Act} {ws : World} {A : Ctx} {w0 : World}
/-- Behind a round that answers. -/
def Done {v : Seen} (c : Cx F γ s a ws v) (r : R9) (l D : Nat) (W : World) : Prop :=
  ∃ (A' : Ctx) (w' : World) (F' : NS) (γ' : GM) (s' : St) (a' : Act) (bn : Nat), Rel A' w' F' γ' s' a' W ∧ Bel c.I ws.heap.size ws W ∧ γ' 2 = some (c.g6, c.p6) ∧ γ' 3 = some (c.g7, c.p7) ∧
    s'.mem 2 = some ⟨true, .cells (r.1.map (fun x => .val (.int .i64 x)) ++ [.slf bn])⟩ ∧ s'.mem 3 = some ⟨true, .cells z7⟩ ∧ s'.mem bn = some ⟨true, .recs [.i64, .i64] r.2⟩ ∧ r.1.length = 8 ∧
    (∀ g, Tracked F' γ' s'.mem g → g ≠ l ∧ g ≠ D) ∧ ∀ g p, γ' bn = some (g, p) → ws.heap.size ≤ g
theorem Done.later {v : Seen} {c : Cx F γ s a ws v} {r : R9} {l D : Nat} {W W' : World} (h : Done c r l D W) (hl : ws.heap.size ≤ l) (hD : ws.heap.size ≤ D) (hB : Bel (fun g => g = l ∨ g = D) W.heap.size W W') : Done c r l D W' := by
  obtain ⟨A', w', F', γ', s', a', bn, R, h1, h2, h3, h4, h5, h6, h7, h8, h9⟩ := h
  refine ⟨_, _, F', γ', s', a', bn, R.reroot hB (fun g hg hi => ?_), h1.call hB h1.size (fun g hg => .inl ?_), h2, h3, h4, h5, h6, h7, h8, h9⟩
  · rcases hi with hi | hi
    · exact (h8 g hg).1 hi
    · exact (h8 g hg).2 hi
  · rcases hg with rfl | rfl <;> assumption
theorem ne_spec {a b : Nat} (h : ne a b = true) : a ≠ b := fun e => by subst e; simp [ne] at h
theorem got_spec {s : St} {bn : Nat} {r : R9} (h : got s = some (bn, r)) : s.mem 2 = some ⟨true, .cells (r.1.map (fun x => .val (.int .i64 x)) ++ [.slf bn])⟩ ∧ s.mem 3 = some ⟨true, .cells z7⟩ ∧ s.mem bn = some ⟨true, .recs [.i64, .i64] r.2⟩ ∧ r.1.length = 8 ∧ bn ≠ 2 ∧ bn ≠ 3 := by
  unfold got at h
  split at h
  · rename_i c d h2 h3
    split at h
    · rename_i xs b hi hz
      split at h
      · rename_i hn hm
        split at h
        · rename_i hk
          simp only [Option.some.injEq, Prod.mk.injEq] at h
          obtain ⟨rfl, rfl⟩ := h
          obtain ⟨i1, i2⟩ := ints_spec hi
          simp only [Bool.and_eq_true] at hn
          exact ⟨by rw [h2, i1], by rw [h3, isZ1_spec hz], by rw [hm, hk], i2, ne_spec hn.1, ne_spec hn.2⟩
        · cases h
      · cases h
    · cases h
  · cases h
theorem rest_spec {s : St} (h : rest_ s = true) : s.mem 2 = some ⟨true, .cells z6⟩ ∧ s.mem 3 = some ⟨true, .cells z7⟩ := by
  unfold rest_ at h
  split at h
  · rename_i c d h2 h3
    simp only [Bool.and_eq_true] at h
    exact ⟨by rw [h2, isZ_spec h.1], by rw [h3, isZ1_spec h.2]⟩
  · cases h
theorem flat_asg : flatC asg = true := by kernel_rfl
theorem flat_bdy : flatC bdy = true := by kernel_rfl
def roundR {v : Seen} (c : Cx F γ s a ws v) (l D : Nat) (ρ : Loop) (x : Unit ⊕ R9) (e : Ending) (W' : World) : Prop := match x with
  | .inl _ => e = .returned (.bool true) ∧ J c W' ∧ W'.heap[l]? = some (.loop ρ) ∧ W'.heap[D]? = some (.deferred (some []))
  | .inr r => e = .returned (.bool false) ∧ Done c r l D W' ∧ W'.heap[l]? = some (.loop { ρ with state := .done, pending := some .ret }) ∧ W'.heap[D]? = some (.deferred (some []))
theorem round_in {K n fn : Nat} {v : Seen} {c : Cx F γ s a ws v} {W : World} (hJ : J c W) {l D : Nat} {i : Int} {row : List Vm.D} {C : Array Value} (hC : All2 (RelC (fR c l D W) (gR c) (sR i row v.id v.day).mem W) (cvsL Lp row 0) C.toList)
    {ρ : Loop} (hl : W.heap[l]? = some (.loop ρ)) (hst : ρ.state = .ready) (hpe : ρ.pending = none) (hD : W.heap[D]? = some (.deferred (some []))) (hlw : ws.heap.size ≤ l) (hDw : ws.heap.size ≤ D) (hlD : l ≠ D)
    {x : Unit ⊕ R9} (hr : rnd K i row v.id v.day = some x) :
    RoundIn Fence.wide n P l fn ((a.tmps.setIfInBounds 25 (.int .i64 i)).setIfInBounds 26 (.agg C)) asg bdy W (roundR c l D ρ x) := by
  refine roundIn_of_wpIn trivial ?_
  have hr' : (rndT K i row v.id v.day).den = some x := by rw [← den2_eq, rnd_eq]; exact hr
  unfold rndT at hr'
  rw [T.den_bind] at hr'
  cases hx : (runC P (env K) lenv0 asg (sR i row v.id v.day)).den with
  | none => rw [hx] at hr'; cases hr'
  | some y =>
  obtain ⟨e1, s1⟩ := y
  rw [hx] at hr'
  simp only [Option.bind_some] at hr'
  cases e1 with
  | exit => exact (den_fail hr').elim
  | ret => exact (den_fail hr').elim
  | pan => exact (den_fail hr').elim
  | normal =>
  simp only at hr'
  rw [T.den_bind] at hr'
  have llt : l < W.heap.size := (Array.getElem?_eq_some_iff.1 hl).1
  have Dlt : D < W.heap.size := (Array.getElem?_eq_some_iff.1 hD).1
  have q6 := c.l6
  have q7 := c.l7
  have nI : ∀ g, ws.heap.size ≤ g → ¬ c.I g := fun g hg hi => by rcases hi with rfl | rfl <;> omega
  refine wpIn_mono (runC_in (r := some l) (n := n) (env__prod_Catalogue_List_ok K) asg flat_asg _ _ _ hx (fun t m e => by cases e) ⟨zR c l D W, c.I, []⟩ W _ W (fR c l D W) (gR c) (round_rel hJ hlw hDw hC) (fun b hb => hb)) ?_
  rintro ex a1 W1 ⟨rfl, F1, γ1, R1, hF1, hx1⟩
  have B1 : Bel c.I W.heap.size W W1 := R1.below
  have hl1 : W1.heap[l]? = some (.loop ρ) := (B1.block l llt (nI l hlw)).trans hl
  have hD1 : W1.heap[D]? = some (.deferred (some [])) := (B1.block D Dlt (nI D hDw)).trans hD
  have tr1 : ∀ g, Tracked F1 γ1 s1.mem g → g ≠ l ∧ g ≠ D := fun g hg => by
    rcases R1.tracked hg with h | h | h
    · exact ⟨h.2.2.2.1, h.2.2.2.2⟩
    · omega
    · have h : c.I g := h
      constructor
      · intro e; subst e; exact nI _ hlw h
      · intro e; subst e; exact nI _ hDw h
  show ∃ w₂, (Instr.beginRound l).run P W1 = .ok () w₂ ∧ bdy.wpIn (Fence.wide.inRound l) n P (roundPost P l (roundR c l D ρ x)) a1 w₂
  refine ⟨_, run_beginRound hl1 hst, ?_⟩
  obtain ⟨W2, hW2⟩ : ∃ W2, W2 = W1.putObj l (.loop { ρ with state := .busy }) := ⟨_, rfl⟩
  rw [← hW2]
  have B2 : Bel (fun g => g = l) W1.heap.size W1 W2 := hW2 ▸ bel_put _ hl1 rfl
  have R2 := R1.reroot B2 (fun g hg => (tr1 g hg).1)
  have l2 : l < W2.heap.size := by have := B1.size; have := B2.size; omega
  have hl2 : W2.heap[l]? = some (.loop { ρ with state := .busy }) := by rw [hW2]; exact World.putObj_heap_same (Array.getElem?_eq_some_iff.1 hl1).1
  have hD2 : W2.heap[D]? = some (.deferred (some [])) := (B2.block D (Array.getElem?_eq_some_iff.1 hD1).1 (Ne.symm hlD)).trans hD1
  cases hy : (runC P (env K) lenv0 bdy s1).den with
  | none => rw [hy] at hr'; cases hr'
  | some y =>
  obtain ⟨e2, s2⟩ := y
  rw [hy] at hr'
  simp only [Option.bind_some] at hr'
  have np : ∀ t m, e2 ≠ .pan t m := fun t m e => by subst e; exact den_fail hr'
  refine wpIn_mono (runC_in (r := some l) (n := n) (env__prod_Catalogue_List_ok K) bdy flat_bdy _ _ _ hy np _ W2 a1 W2 F1 γ1 R2 hF1) ?_
  rintro ex a2 W3 ⟨rfl, F2, γ2, R3, hF2, hx2⟩
  have B3 : Bel (Owned γ1 s1.mem) W2.heap.size W2 W3 := R3.below
  have ow : ∀ g, Owned γ1 s1.mem g → W.heap.size ≤ g ∨ c.I g := fun g ⟨b, e, base, h1, h2, h3⟩ => (R1.own b e g base h1 h2 h3).1
  have nO : ∀ g, g < W.heap.size → ws.heap.size ≤ g → ¬ Owned γ1 s1.mem g := fun g h1 h2 h3 => (ow g h3).elim (fun h => by omega) (nI g h2)
  have s12 := B1.size
  have s23 := B2.size
  have s34 := B3.size
  have hl3 : W3.heap[l]? = some (.loop { ρ with state := .busy }) := (B3.block l l2 (nO l llt hlw)).trans hl2
  have hD3 : W3.heap[D]? = some (.deferred (some [])) := (B3.block D (by omega) (nO D Dlt hDw)).trans hD2
  have s01 := hJ.bel.size
  have BW : Bel c.I ws.heap.size ws W3 := ((hJ.bel.call B1 s01 (fun g h => .inr h)).call B2 (by omega) (fun g h => .inl (h ▸ hlw))).call B3 (by omega) (fun g h => (ow g h).imp (fun h => by omega) id)
  have k2 : γ2 2 = some (c.g6, c.p6) := by rw [hx2.2 2 (hx1.1 2 (by show (2 : Nat) < 4; decide)), hx1.2 2 (by show (2 : Nat) < 4; decide)]; rfl
  have k3 : γ2 3 = some (c.g7, c.p7) := by rw [hx2.2 3 (hx1.1 3 (by show (3 : Nat) < 4; decide)), hx1.2 3 (by show (3 : Nat) < 4; decide)]; rfl
  have B4 : ∀ o', Bel (fun g => ws.heap.size ≤ g) W3.heap.size W3 (W3.putObj l o') := fun o' => (bel_put o' hl3 rfl).mono (Nat.le_refl _) fun g _ h => h ▸ hlw
  have d4 : ∀ o', (W3.putObj l o').heap[D]? = some (.deferred (some [])) := fun o' => (World.putObj_heap_other (Ne.symm hlD)).trans hD3
  cases e2 with
  | exit => exact (den_fail hr').elim
  | pan t m => exact (np t m rfl).elim
  | normal =>
    simp only at hr'
    split at hr'
    case h_2 => exact (den_fail hr').elim
    rename_i hz
    obtain ⟨m2, m3⟩ := rest_spec hz
    obtain rfl : x = .inl () := by simpa [T.den] using hr'.symm
    refine ⟨_, _, run_endRound none hl3, rfl, ?_, ?_, d4 _⟩
    · refine J.later ⟨BW, ?_, ?_, ?_, ?_⟩ (B4 _)
      · exact relB_vals rfl (by rw [k2, c.c6]) (fun _ _ _ => rfl) (R3.memr 2 _ m2).2
      · exact relB_vals rfl (by rw [k3, c.c7]) (fun _ _ _ => rfl) (R3.memr 3 _ m3).2
      · exact R3.nofr 2 _ _ _ m2 rfl k2
      · exact R3.nofr 3 _ _ _ m3 rfl k3
    · rw [World.putObj_heap_same (Array.getElem?_eq_some_iff.1 hl3).1]
      have : ({ ({ ρ with state := .busy } : Loop) with state := .ready, pending := none } : Loop) = ρ := by
        cases ρ; simp only at hst hpe; subst hst; subst hpe; rfl
      exact congrArg (fun q => some (Obj.loop q)) this
  | ret =>
    simp only at hr'
    split at hr'
    case h_2 => exact (den_fail hr').elim
    rename_i r' hg
    obtain ⟨bn, r⟩ := r'
    obtain ⟨m2, m3, mb, hlen, n2, n3⟩ := got_spec hg
    obtain rfl : x = .inr r := by simpa [T.den] using hr'.symm
    refine ⟨_, _, run_endRound (some .ret) hl3, rfl, ?_, ?_, d4 _⟩
    · refine Done.later (W := W3) ⟨_, _, F2, γ2, s2, a2, bn, R3, BW, k2, k3, m2, m3, mb, hlen, fun g hg => ?_, fun g p hg => ?_⟩ hlw hDw ((bel_put _ hl3 rfl).mono (Nat.le_refl _) fun g _ h => .inl h)
      · rcases R3.tracked hg with h | h | h
        · exact tr1 g (.inl h)
        · omega
        · have := ow g h
          constructor
          · intro e; subst e; exact nO _ llt hlw h
          · intro e; subst e; exact nO _ Dlt hDw h
      · obtain ⟨o1, o2⟩ := R3.own bn _ g p mb rfl hg
        rcases o1 with o1 | o1
        · omega
        · rcases ow g o1 with o | o
          · omega
          · rcases o with o | o
            · exact (o2 2 _ _ _ (Ne.symm n2) m2 k2 o.symm).elim
            · exact (o2 3 _ _ _ (Ne.symm n3) m3 k3 o.symm).elim
    · rw [World.putObj_heap_same (Array.getElem?_eq_some_iff.1 hl3).1]
      rfl
end At
namespace At
noncomputable abbrev b33 : Code := bodyOf Go.Proofs.Try.f33
noncomputable def lpC : Code → Code
  | .loop c => c
  | c => c
noncomputable def Q0 : Code := sq1 b33
noncomputable def LB : Code := lpC (blkC (sq2 b33))
noncomputable def Q1 : Code := sq1 (sq1 LB)
noncomputable def Q3 : Code := sq1 (blkC (sq1 (sq2 LB)))
noncomputable def Q2 : Code := sq2 (sq2 LB)
noncomputable def opsQ : Array Oper := opsC Q3
theorem b33_eq : b33 = .seq Q0 (.block 0 (.loop (.seq (.seq Q1 (.cond (.tmp 8) .skip (.exit 0))) (.seq (.block 1 (.seq (.region 3 opsQ false) (.cond (.tmp 18) .ret .skip))) Q2)))) := by kernel_rfl
noncomputable def opY : Oper := nth { dst := none, op := .move (.tmp 0), type := 0, pos := "", after := #[], guard := none } opsQ.toList 6
noncomputable def opN : Oper := nth { dst := none, op := .move (.tmp 0), type := 0, pos := "", after := #[], guard := none } opsQ.toList 7
theorem opsQ_eq : opsQ.toList = opsQ.toList.take 6 ++ [opY, opN] := by kernel_rfl
theorem opY_eq : opY.op = .call { callee := .value (.tmp 11), args := #[.tmp 12, .tmp 16], argTypes := #[3, 25] } ∧ opY.guard = none ∧ opY.dst = some 17 := ⟨by kernel_rfl, by kernel_rfl, by kernel_rfl⟩
theorem opN_eq : opN.op = .unOp .not 4 (.tmp 17) ∧ opN.guard = none ∧ opN.dst = some 18 := ⟨by kernel_rfl, by kernel_rfl, by kernel_rfl⟩
/-- The iterator's state: yield, the box of the slice, the place. -/
noncomputable def sI (y : Value) (i : CV) (dd : List (List D)) : St :=
  ⟨put (put (put (List.replicate 19 anyS) 0 (.pv (.one (.val y)))) 1 (.pv (.one (.ptr 0 0 0 0)))) 3 (.pv (.one i)), memOf [⟨false, .cells [.slf 1]⟩, ⟨false, .grow Lp dd⟩], 2, []⟩
noncomputable def slotV (s : St) (t : Nat) : Option Value := match nth undefS s.tmps t with
  | .pv (.one (.val v)) => some v
  | _ => none
noncomputable def isP : SV → Bool
  | .pv (.one (.ptr 0 0 0 0)) => true
  | _ => false
noncomputable def kp (s : St) : Option (Value × Value) := match slotV s 0, isP (nth undefS s.tmps 1) && (len s.tmps == 19), slotV s 3 with
  | some f, true, some v => some (f, v)
  | _, _, _ => none
noncomputable def T0 (K : Nat) (y : Value) (dd : List (List D)) : T (Value × Value) := (runC P (env K) lenv0 Q0 (sI y .any dd)).bind fun x => match x with
  | (.normal, s1) => T.opt (kp s1) .ret
  | _ => .fail
theorem T0_eq (K : Nat) (y : Value) (dd : List (List D)) : (T0 K y dd).den2 = some (y, .int .i64 (Go.IntKind.i64.wrap ((dd.length : Int) - 1))) := by kernel_rfl
noncomputable def T1 (K : Nat) (y : Value) (i : Int) (dd : List (List D)) : T ((Value × Value) × Value) := (runC P (env K) lenv0 Q1 (sI y (.val (.int .i64 i)) dd)).bind fun x => match x with
  | (.normal, s1) => T.opt (kp s1) fun f => T.opt (slotV s1 8) fun b => .ret (f, b)
  | _ => .fail
theorem T1_eq (K : Nat) (y : Value) (i : Int) (dd : List (List D)) : (T1 K y i dd).den2 = some ((y, .int .i64 i), .bool (decide (i ≥ 0))) := by kernel_rfl
noncomputable def aggS (s : St) (t : Nat) : Option (List CV) := match nth undefS s.tmps t with
  | .pv (.agg l) => some l
  | _ => none
noncomputable def T3 (K : Nat) (y : Value) (i : Int) (dd : List (List D)) : T ((Value × Value) × Value × Value × List CV) := (runLX P (env K) opsQ.toList 2 (opsQ.toList.take 6) 0 (sI y (.val (.int .i64 i)) dd)).bind fun x => match x with
  | (.normal, s1) => T.opt (kp s1) fun f => T.opt (slotV s1 11) fun g => T.opt (slotV s1 12) fun j => T.opt (aggS s1 16) fun l => .ret (f, g, j, l)
  | _ => .fail
theorem T3_eq (K : Nat) (y : Value) (i : Int) (dd : List (List D)) : (T3 K y i dd).den2 = bi (decide (0 ≤ i) && decide (i < (dd.length : Int))) (some ((y, .int .i64 i), y, .int .i64 i, cvsL Lp (nth [] dd i.toNat) 0)) none := by kernel_rfl
noncomputable def T2 (K : Nat) (y : Value) (i : Int) (dd : List (List D)) : T (Value × Value) := (runC P (env K) lenv0 Q2 (sI y (.val (.int .i64 i)) dd)).bind fun x => match x with
  | (.normal, s1) => T.opt (kp s1) .ret
  | _ => .fail
theorem T2_eq (K : Nat) (y : Value) (i : Int) (dd : List (List D)) : (T2 K y i dd).den2 = some (y, .int .i64 (Go.IntKind.i64.wrap (i - 1))) := by kernel_rfl
end At
namespace At
variable {F : NS} {γ : GM} {s : St} {a : Act} {ws : World} {A : Ctx} {w0 : World}
/-- The list that is gone through. -/
structure Lx {v : Seen} (c : Cx F γ s a ws v) where
  la : Option Addr
  cap : Nat
  bx : Nat
  ok : slcOk γ ws v.bl 0 v.dd.length 9 (.slice la v.dd.length cap)
  rl : RelB F γ s.mem ws v.bl (.grow Lp v.dd)
  nl : ∀ g p, γ v.bl = some (g, p) → g < ws.heap.size ∧ g ≠ c.g6 ∧ g ≠ c.g7
  hbx : ws.heap[bx]? = some (.cells #[.slice la v.dd.length cap] 51)
  nb6 : bx ≠ c.g6
  nb7 : bx ≠ c.g7
def gI {v : Seen} {c : Cx F γ s a ws v} (x : Lx c) : GM := fun b => match b with
  | 0 => some (x.bx, 0)
  | 1 => γ v.bl
  | _ => none
def fI {v : Seen} (c : Cx F γ s a ws v) (l D : Nat) (W : World) : NS := ⟨fun b => b < 2, zR c l D W⟩
def ptrI {v : Seen} {c : Cx F γ s a ws v} (x : Lx c) : Value := .pointer (some ⟨x.bx, 0 + (0 * 0 + 0), none⟩)
theorem it_mem {v : Seen} {c : Cx F γ s a ws v} (x : Lx c) {W : World} (h : J c W) {l D : Nat} (hlw : ws.heap.size ≤ l) (hDw : ws.heap.size ≤ D) (y : Value) (i : CV) : Mem ⟨zR c l D W, fun _ => False, []⟩ W (fI c l D W) (gI x) (sI y i v.dd).mem [] W := by
  have h1 := h.bel.size
  have bxl : x.bx < ws.heap.size := (Array.getElem?_eq_some_iff.1 x.hbx).1
  have ebx : W.heap[x.bx]? = ws.heap[x.bx]? := h.bel.block _ bxl (fun hh => hh.elim x.nb6 x.nb7)
  have egl : ∀ g p, γ v.bl = some (g, p) → W.heap[g]? = ws.heap[g]? := fun g p hg => h.bel.block _ (x.nl g p hg).1 (fun hh => hh.elim (x.nl g p hg).2.1 (x.nl g p hg).2.2)
  have hmem : ∀ b e, (sI y i v.dd).mem b = some e → (b = 0 ∧ e = ⟨false, .cells [.slf 1]⟩) ∨ (b = 1 ∧ e = ⟨false, .grow Lp v.dd⟩) := fun b e hb => by
    have hb : memOf [⟨false, .cells [.slf 1]⟩, ⟨false, .grow Lp v.dd⟩] b = some e := hb
    match b, hb with
    | 0, hb => exact .inl ⟨rfl, (Option.some.inj hb).symm⟩
    | 1, hb => exact .inr ⟨rfl, (Option.some.inj hb).symm⟩
    | b + 2, hb => simp [memOf] at hb
  have zz : ∀ g, F.z g → zR c l D W g := fun g hg => by
    have := c.zl g hg
    exact ⟨by omega, this.2.1, this.2.2, by omega, by omega⟩
  refine view_mem (N := 2) (fun b e hb => ?_) (fun b e g base hb ho hg => ?_) (fun b e g base hb ho hg => ?_) (fun b e g base hb hg => ?_) (fun b o kk vk es hb => ?_) (fun g hz => hz.1)
  · rcases hmem b e hb with ⟨rfl, rfl⟩ | ⟨rfl, rfl⟩
    · refine ⟨by decide, fun i j cv hc => ?_⟩
      simp only [Blk.at] at hc
      split at hc
      · rename_i hi
        subst hi
        cases j with
        | zero =>
          obtain rfl : CV.slf 1 = cv := by simpa using hc
          refine ⟨x.bx, 0, #[.slice x.la v.dd.length x.cap], (51, (0, 0)), .slice x.la v.dd.length x.cap, rfl, ebx.trans x.hbx, rfl, by show (1 : Nat) < 2; decide, ⟨_, _, _, rfl⟩, fun e he => ?_⟩
          obtain rfl : (⟨false, .grow Lp v.dd⟩ : Ent) = e := Option.some.inj he
          rcases x.ok with ⟨z, ad, hV⟩ | ⟨g, base, cap, g1, g2, g3, cs, t, g4, g5⟩
          · exact .inl ⟨z, ad, hV⟩
          · exact .inr ⟨g, base, cap, g1, g2, g3, cs, t, (egl g base g1).trans g4, g5⟩
        | succ j => simp at hc
      · cases hc
    · refine ⟨by decide, fun i j cv hc => ?_⟩
      obtain ⟨g, base, cs, t, V, k1, k2, k3, k4⟩ := x.rl i j cv hc
      refine ⟨g, base, cs, t, V, k1, (egl g base k1).trans k2, k3, k4.free (at_free (fun l e => by cases e) hc) zz fun g hg => ?_⟩
      have := c.zl g hg
      exact h.bel.block _ this.1 (fun hh => hh.elim this.2.1 this.2.2)
  · rcases hmem b e hb with ⟨rfl, rfl⟩ | ⟨rfl, rfl⟩ <;> cases ho
  · rcases hmem b e hb with ⟨rfl, rfl⟩ | ⟨rfl, rfl⟩
    · simp only [gI, Option.some.injEq, Prod.mk.injEq] at hg
      obtain ⟨rfl, _⟩ := hg
      exact ⟨by omega, x.nb6, x.nb7, by omega, by omega⟩
    · have := x.nl g base hg
      exact ⟨by omega, this.2.1, this.2.2, by omega, by omega⟩
  · rcases hmem b e hb with ⟨rfl, rfl⟩ | ⟨rfl, rfl⟩
    · simp only [gI, Option.some.injEq, Prod.mk.injEq] at hg
      obtain ⟨rfl, _⟩ := hg
      omega
    · have := x.nl g base hg
      omega
  · rcases hmem b _ hb with ⟨_, e⟩ | ⟨_, e⟩ <;> cases e
/-- What is known of the iterator's slots. -/
structure Ia {v : Seen} {c : Cx F γ s a ws v} (x : Lx c) (y : Value) (t : Act) : Prop where
  sz : t.tmps.size = 19
  df : t.defers = []
  t0 : t.tmps.getD 0 undef = y
  t1 : t.tmps.getD 1 undef = ptrI x
theorem it_rel {v : Seen} {c : Cx F γ s a ws v} (x : Lx c) {W : World} (h : J c W) {l D : Nat} (hlw : ws.heap.size ≤ l) (hDw : ws.heap.size ≤ D) {y : Value} {i : CV} {t : Act} (ha : Ia x y t)
    (hi : RelC (fI c l D W) (gI x) (sI y i v.dd).mem W i (t.tmps.getD 3 undef)) : Rel ⟨zR c l D W, fun _ => False, []⟩ W (fI c l D W) (gI x) (sI y i v.dd) t W := by
  refine { it_mem x h hlw hDw y i with defers := ha.df, size := by simp [sI, put_eq, ha.sz], slots := fun q => ?_ }
  by_cases q3 : q = 3
  · subst q3
    exact hi
  by_cases q1 : q = 1
  · subst q1
    rw [ha.t1]
    show RelV _ _ _ _ (.pv (.one (.ptr 0 0 0 0))) _
    exact ⟨by show (0 : Nat) < 2; decide, ⟨x.bx, 0, rfl, rfl⟩, fun e he => by obtain rfl := Option.some.inj he; exact ⟨rfl, rfl⟩⟩
  by_cases q0 : q = 0
  · subst q0
    rw [ha.t0]
    show RelV _ _ _ _ (.pv (.one (.val y))) _
    rfl
  have hn : nth undefS (sI y i v.dd).tmps q = nth undefS (List.replicate 19 anyS) q := by
    show nth undefS (put (put (put (List.replicate 19 anyS) 0 _) 1 _) 3 _) q = _
    rw [nth_put, if_neg (fun e => q3 e.1), nth_put, if_neg (fun e => q1 e.1), nth_put, if_neg (fun e => q0 e.1)]
  rw [hn, nth_eq, List.getD_eq_getElem?_getD, List.getElem?_replicate]
  split
  · exact trivial
  · rename_i ht
    have hs := ha.sz
    have : t.tmps.getD q undef = undef := by rw [Array.getD_eq_getD_getElem?, Array.getElem?_eq_none (by omega)]; rfl
    rw [this]; rfl
theorem slotV_spec {s : St} {t : Nat} {v : Value} (h : slotV s t = some v) : nth undefS s.tmps t = .pv (.one (.val v)) := by
  unfold slotV at h
  split at h
  · rename_i e; rw [e, Option.some.inj h]
  · cases h
theorem aggS_spec {s : St} {t : Nat} {l : List CV} (h : aggS s t = some l) : nth undefS s.tmps t = .pv (.agg l) := by
  unfold aggS at h
  split at h
  · rename_i e; rw [e, Option.some.inj h]
  · cases h
theorem isP_spec {x : SV} (h : isP x = true) : x = .pv (.one (.ptr 0 0 0 0)) := by
  unfold isP at h
  split at h
  · rfl
  · cases h
theorem kp_spec {s : St} {y v : Value} (h : kp s = some (y, v)) : nth undefS s.tmps 0 = .pv (.one (.val y)) ∧ nth undefS s.tmps 1 = .pv (.one (.ptr 0 0 0 0)) ∧ s.tmps.length = 19 ∧ nth undefS s.tmps 3 = .pv (.one (.val v)) := by
  unfold kp at h
  split at h
  · rename_i f v' h0 h1 h3
    simp only [Option.some.injEq, Prod.mk.injEq] at h
    obtain ⟨rfl, rfl⟩ := h
    simp only [Bool.and_eq_true, beq_iff_eq] at h1
    exact ⟨slotV_spec h0, isP_spec h1.1, by rw [← len_eq]; exact h1.2, slotV_spec h3⟩
  · cases h
/-- What the iterator's own steps leave. -/
theorem it_back {v : Seen} {c : Cx F γ s a ws v} (x : Lx c) {W W' : World} (h : J c W) {l D : Nat} {ρ : Loop} (hlw : ws.heap.size ≤ l) (hDw : ws.heap.size ≤ D) (hl : W.heap[l]? = some (.loop ρ)) (hD : W.heap[D]? = some (.deferred (some []))) {F' : NS} {γ' : GM} {s1 : St} {a1 : Act} {y w : Value}
    (R : Rel ⟨zR c l D W, fun _ => False, []⟩ W F' γ' s1 a1 W') (hx : Ext (fI c l D W) (gI x) F' γ') (hk : kp s1 = some (y, w)) :
    J c W' ∧ W'.heap[l]? = some (.loop ρ) ∧ W'.heap[D]? = some (.deferred (some [])) ∧ Ia x y a1 ∧ a1.tmps.getD 3 undef = w := by
  have B : Bel (fun _ => False) W.heap.size W W' := R.below
  obtain ⟨k0, k1, k2, k3⟩ := kp_spec hk
  refine ⟨h.later (B.mono (Nat.le_refl _) fun _ _ h => h.elim), (B.block l (Array.getElem?_eq_some_iff.1 hl).1 id).trans hl, (B.block D (Array.getElem?_eq_some_iff.1 hD).1 id).trans hD, ⟨?_, R.defers, ?_, ?_⟩, ?_⟩
  · rw [R.size, k2]
  · have := R.slots 0; rw [k0] at this; exact this
  · have := R.slots 1; rw [k1] at this
    obtain ⟨_, ⟨g, base, h1, h2⟩, _⟩ := this
    rw [hx.2 0 (by show (0 : Nat) < 2; decide)] at h1
    obtain ⟨rfl, rfl⟩ : x.bx = g ∧ 0 = base := by simpa [gI] using h1
    exact h2
  · have := R.slots 3; rw [k3] at this; exact this
theorem flat_Q0 : flatC Q0 = true := by kernel_rfl
theorem flat_Q1 : flatC Q1 = true := by kernel_rfl
theorem flat_Q2 : flatC Q2 = true := by kernel_rfl
theorem flat_Q3 : (opsQ.toList.take 6).all notDefer = true := by kernel_rfl
end At
namespace At
variable {F : NS} {γ : GM} {s : St} {a : Act} {ws : World} {A : Ctx} {w0 : World}
theorem notIn {n : Nat} {t : Act} {W : World} {K : Act → World → Prop} {Q : Exit → Act → World → Prop} {b : Bool} (h : t.tmps.getD 17 undef = .bool b) (hK : K (t.put (some 18) (.bool (!b))) W) : opN.wpIn Fence.wide n P t W K Q := by
  obtain ⟨o1, o2, o3⟩ := opN_eq
  have e : (execOp t.eval opN).run P W = .ok (.value (.bool (!b))) W := by
    have h' : t.eval (.tmp 17) = .bool b := h
    simp only [execOp, o1, h']
    rfl
  unfold Oper.wpIn
  refine ⟨fun _ _ => trivial, ?_⟩
  show opN.uponIn Fence.wide n P t K Q ((execOp t.eval opN).run P W)
  rw [e]
  show K (t.put opN.dst (.bool (!b))) W
  rw [o3]; exact hK
theorem yieldIn {n : Nat} {t : Act} {W : World} {K : Act → World → Prop} {Q : Exit → Act → World → Prop} {l fn : Nat} {tm : Array Value} {asc bd : Code} {v1 v2 : Value} (h11 : t.tmps.getD 11 undef = .func (.yield l) #[] #[]) (h12 : t.tmps.getD 12 undef = v1) (h16 : t.tmps.getD 16 undef = v2)
    (hy : (Instr.yield l #[v1, v2]).run P W = .ok (.round l fn tm asc bd) W) (hR : RoundIn Fence.wide (n - 1) P l fn tm asc bd W fun e W' => ∃ b, e = .returned (.bool b) ∧ K (t.put (some 17) (.bool b)) W') : opY.wpIn Fence.wide n P t W K Q := by
  obtain ⟨o1, o2, o3⟩ := opY_eq
  have e : (execOp t.eval opY).run P W = .ok (.round l fn tm asc bd) W := by
    have h1 : t.eval (.tmp 11) = .func (.yield l) #[] #[] := h11
    have h2 : t.eval (.tmp 12) = v1 := h12
    have h3 : t.eval (.tmp 16) = v2 := h16
    simp only [execOp, o1, resolve, h1, Deferred.ofValue, Sem.run_bind, Sem.run_pure, Result.andThen_ok, invoke, List.map_toArray, List.map_cons, List.map_nil, h2, h3]
    simp only [Array.empty_append, Array.append_empty]
    exact hy
  unfold Oper.wpIn
  refine ⟨fun _ _ => trivial, ?_⟩
  show opY.uponIn Fence.wide n P t K Q ((execOp t.eval opY).run P W)
  rw [e]
  refine ⟨fun h => (by cases h), hR.mono fun e W' he => ?_⟩
  obtain ⟨b, rfl, hk⟩ := he
  show K (t.put opY.dst (.bool b)) W'
  rw [o3]; exact hk
end At
namespace At
variable {F : NS} {γ : GM} {s : St} {a : Act} {ws : World} {A : Ctx} {w0 : World}
theorem cv_shift {F1 F2 : NS} {γ1 γ2 : GM} {m1 m2 : MM} {W : World} (hz : ∀ g, F1.z g → F2.z g) : ∀ (l : List Sh) (x : List Vm.D) (j : Nat) (Vs : List Value), All2 (RelC F1 γ1 m1 W) (cvsL l x j) Vs → All2 (RelC F2 γ2 m2 W) (cvsL l x j) Vs
  | [], x, j, [], _ => trivial
  | h :: l, x, j, V :: Vs, hh => by
    refine ⟨?_, cv_shift hz l x (j + 1) Vs hh.2⟩
    have h1 := hh.1
    cases h with
    | int k => exact h1
    | bool => exact h1
    | str => exact h1
    | sl q => exact Deep.step hz (fun _ _ => rfl) h1
  | [], x, j, _ :: _, hh => hh.elim
  | _ :: _, x, j, [], hh => hh.elim
theorem wrap_in {x : Int} (h0 : -9223372036854775808 ≤ x) (h1 : x < 9223372036854775808) : IntKind.i64.wrap x = x := by
  have e : IntKind.i64.wrap x = if x % 18446744073709551616 ≥ 9223372036854775808 then x % 18446744073709551616 - 18446744073709551616 else x % 18446744073709551616 := by
    simp [IntKind.wrap, IntKind.signed, IntKind.bits]
  rw [e]; split <;> omega
theorem nt33 : Go.Proofs.Try.f33.ntmps = 19 := by kernel_rfl
/-- What the iterator leaves. -/
def iterR {v : Seen} (c : Cx F γ s a ws v) (l D : Nat) (ρ : Loop) (o : Unit ⊕ R9) (W' : World) : Prop := match o with
  | .inl _ => J c W' ∧ W'.heap[l]? = some (.loop ρ) ∧ W'.heap[D]? = some (.deferred (some []))
  | .inr r => Done c r l D W' ∧ W'.heap[l]? = some (.loop { ρ with state := .done, pending := some .ret }) ∧ W'.heap[D]? = some (.deferred (some []))
theorem put_ne {t : Act} {d q : Nat} {z : Value} (h : d ≠ q) : (t.put (some d) z).tmps.getD q undef = t.tmps.getD q undef := by
  show (t.tmps.setIfInBounds d z).getD q undef = _
  rw [Array.getD_eq_getD_getElem?, Array.getD_eq_getD_getElem?, Array.getElem?_setIfInBounds_ne h]
theorem put_eq' {t : Act} {d : Nat} {z : Value} (h : d < t.tmps.size) : (t.put (some d) z).tmps.getD d undef = z := by
  show (t.tmps.setIfInBounds d z).getD d undef = _
  rw [getD_set _ _ _ _ _ h, if_pos rfl]
theorem Ia.put {v : Seen} {c : Cx F γ s a ws v} {x : Lx c} {y : Value} {t : Act} (h : Ia x y t) {d : Nat} {z : Value} (h0 : d ≠ 0) (h1 : d ≠ 1) : Ia x y (t.put (some d) z) :=
  ⟨by show (t.tmps.setIfInBounds d z).size = 19; rw [Array.size_setIfInBounds]; exact h.sz, h.df, (put_ne h0).trans h.t0, (put_ne h1).trans h.t1⟩
set_option maxHeartbeats 1000000 in
theorem iter_in {K n : Nat} {v : Seen} {c : Cx F γ s a ws v} (x : Lx c) {W : World} (hJ : J c W) {l D : Nat} {ρ : Loop} (hl : W.heap[l]? = some (.loop ρ)) (hst : ρ.state = .ready) (hpe : ρ.pending = none) (hpa : ρ.params = #[25, 26]) (htm : ρ.tmps = a.tmps) (has : ρ.assign = asg) (hbd : ρ.body = bdy)
    (hD : W.heap[D]? = some (.deferred (some []))) (hlw : ws.heap.size ≤ l) (hDw : ws.heap.size ≤ D) (hlD : l ≠ D) (hdl : v.dd.length < 4611686018427387904) {o : Unit ⊕ R9} (hs : scan K v.dd v.id v.day v.dd.length = some o) :
    CallsIn Fence.wide n P 33 #[.func (.yield l) #[] #[], ptrI x] W fun e W' => (∃ vv, e = .returned vv) ∧ iterR c l D ρ o W' := by
  obtain ⟨y, hy⟩ : ∃ y, y = Value.func (.yield l) #[] #[] := ⟨_, rfl⟩
  rw [← hy]
  refine callsIn_of_wp (c := b33) Go.Proofs.Try.func33 rfl trivial ?_ rfl
  rw [b33_eq]
  have ha0 : Ia x y { tmps := #[y, ptrI x] ++ Array.replicate (Go.Proofs.Try.f33.ntmps - (#[y, ptrI x] : Array Value).size) undef, defers := [] } := by
    rw [nt33]
    exact ⟨by simp, rfl, by simp, by simp⟩
  have fin2 : ∀ b, (fI c l D W) b → b < 2 := fun b hb => hb
  -- the place to begin with
  have e0 := (den2_eq _).symm.trans (T0_eq K y v.dd)
  unfold T0 at e0
  rw [T.den_bind] at e0
  cases hq0 : (runC P (env K) lenv0 Q0 (sI y .any v.dd)).den with
  | none => rw [hq0] at e0; cases e0
  | some z =>
  obtain ⟨e1, s1⟩ := z
  rw [hq0] at e0
  simp only [Option.bind_some] at e0
  cases e1 with
  | exit => exact (den_fail e0).elim
  | ret => exact (den_fail e0).elim
  | pan => exact (den_fail e0).elim
  | normal =>
  obtain ⟨kv, hk, e0⟩ := den_opt e0
  obtain rfl : kv = (y, .int .i64 (IntKind.i64.wrap ((v.dd.length : Int) - 1))) := by simpa [T.den] using e0
  refine wpIn_seq (wpIn_mono (runC_in (r := none) (n := n) (env__prod_Catalogue_List_ok K) Q0 flat_Q0 _ _ _ hq0 (fun t m e => by cases e) ⟨zR c l D W, fun _ => False, []⟩ W _ W (fI c l D W) (gI x) (it_rel x hJ hlw hDw ha0 trivial) fin2) ?_)
  rintro ex t1 W1 ⟨rfl, F1, γ1, R1, hF1, hx1⟩
  obtain ⟨hJ1, hl1, hD1, ha1, h31⟩ := it_back x hJ hlw hDw hl hD R1 hx1 hk
  show (Code.block 0 _).wpIn Fence.wide n P _ t1 W1
  refine wpIn_block ?_
  refine wpIn_loop (fun t W' => ∃ k : Nat, J c W' ∧ W'.heap[l]? = some (.loop ρ) ∧ W'.heap[D]? = some (.deferred (some [])) ∧ Ia x y t ∧ t.tmps.getD 3 undef = .int .i64 ((k : Int) - 1) ∧ scan K v.dd v.id v.day k = some o ∧ k ≤ v.dd.length)
    (fun t _ => match t.tmps.getD 3 undef with | .int _ z => (z + 1).toNat | _ => 0) ⟨v.dd.length, hJ1, hl1, hD1, ha1, by rw [h31]; congr 1; rw [show IntKind.i64.wrap ((v.dd.length : Int) - 1) = (v.dd.length : Int) - 1 from ?_]; exact wrap_in (by omega) (by omega), hs, Nat.le_refl _⟩ ?_
  rintro t W' ⟨k, hJ, hl, hD, ha, h3, hsc, hkl⟩
  have fin2 : ∀ b, (fI c l D W') b → b < 2 := fun b hb => hb
  have hc3 : RelC (fI c l D W') (gI x) (sI y (.val (.int .i64 ((k : Int) - 1))) v.dd).mem W' (.val (.int .i64 ((k : Int) - 1))) (t.tmps.getD 3 undef) := h3
  -- is there one more?
  have e1 := (den2_eq _).symm.trans (T1_eq K y ((k : Int) - 1) v.dd)
  unfold T1 at e1
  rw [T.den_bind] at e1
  cases hq1 : (runC P (env K) lenv0 Q1 (sI y (.val (.int .i64 ((k : Int) - 1))) v.dd)).den with
  | none => rw [hq1] at e1; cases e1
  | some z =>
  obtain ⟨ee, s2⟩ := z
  rw [hq1] at e1
  simp only [Option.bind_some] at e1
  cases ee with
  | exit => exact (den_fail e1).elim
  | ret => exact (den_fail e1).elim
  | pan => exact (den_fail e1).elim
  | normal =>
  obtain ⟨kv, hk2, e1⟩ := den_opt e1
  obtain ⟨bv, hb8, e1⟩ := den_opt e1
  obtain ⟨rfl, rfl⟩ : kv = (y, .int .i64 ((k : Int) - 1)) ∧ bv = .bool (decide ((k : Int) - 1 ≥ 0)) := by simpa [T.den] using e1
  refine wpIn_seq (wpIn_seq (wpIn_mono (runC_in (r := none) (n := n) (env__prod_Catalogue_List_ok K) Q1 flat_Q1 _ _ _ hq1 (fun t m e => by cases e) ⟨zR c l D W', fun _ => False, []⟩ W' _ W' (fI c l D W') (gI x) (it_rel x hJ hlw hDw ha hc3) fin2) ?_))
  rintro ex t2 W2 ⟨rfl, F2, γ2, R2, hF2, hx2⟩
  obtain ⟨hJ2, hl2, hD2, ha2, h32⟩ := it_back x hJ hlw hDw hl hD R2 hx2 hk2
  have h8 : t2.eval (.tmp 8) = .bool (decide ((k : Int) - 1 ≥ 0)) := by have := R2.slots 8; rw [slotV_spec hb8] at this; exact this
  show (Code.cond (.tmp 8) .skip (.exit 0)).wpIn Fence.wide n P _ t2 W2
  cases k with
  | zero =>
    refine wpIn_cond_false (by rw [h8]; rfl) (wpIn_exit ?_)
    obtain rfl : Sum.inl () = o := by simpa [scan] using hsc
    simp only [Exit.then, Exit.inBlock, if_true]
    exact ⟨ha2.df, _, results_none rfl _ _ _, ⟨_, rfl⟩, hJ2, hl2, hD2⟩
  | succ i =>
  refine wpIn_cond_true (by rw [h8]; simp) (wpIn_skip ?_)
  show (Code.seq _ _).wpIn Fence.wide n P _ t2 W2
  have ek : (((i + 1 : Nat) : Int) - 1) = (i : Int) := by omega
  rw [ek] at h32
  have fin2 : ∀ b, (fI c l D W2) b → b < 2 := fun b hb => hb
  have hc3 : RelC (fI c l D W2) (gI x) (sI y (.val (.int .i64 (i : Int))) v.dd).mem W2 (.val (.int .i64 (i : Int))) (t2.tmps.getD 3 undef) := h32
  -- the member
  have e3 := (den2_eq _).symm.trans (T3_eq K y (i : Int) v.dd)
  rw [bi_eq, if_pos (by simp; omega), Int.toNat_natCast] at e3
  unfold T3 at e3
  rw [T.den_bind] at e3
  cases hq3 : (runLX P (env K) opsQ.toList 2 (opsQ.toList.take 6) 0 (sI y (.val (.int .i64 (i : Int))) v.dd)).den with
  | none => rw [hq3] at e3; cases e3
  | some z =>
  obtain ⟨ee, s3⟩ := z
  rw [hq3] at e3
  simp only [Option.bind_some] at e3
  cases ee with
  | exit => exact (den_fail e3).elim
  | ret => exact (den_fail e3).elim
  | pan => exact (den_fail e3).elim
  | normal =>
  obtain ⟨kv, hk3, e3⟩ := den_opt e3
  obtain ⟨fv, hf11, e3⟩ := den_opt e3
  obtain ⟨iv, hi12, e3⟩ := den_opt e3
  obtain ⟨cl, hc16, e3⟩ := den_opt e3
  obtain ⟨rfl, rfl, rfl, rfl⟩ : kv = (y, .int .i64 (i : Int)) ∧ y = fv ∧ iv = .int .i64 (i : Int) ∧ cl = cvsL Lp (nth [] v.dd i) 0 := by
    simp only [T.den, Option.some.injEq, Prod.mk.injEq] at e3
    exact ⟨e3.1, e3.2.1.symm, e3.2.2.1, e3.2.2.2⟩
  refine wpIn_seq (wpIn_block (wpIn_seq (wpIn_region_list ?_)))
  rw [opsQ_eq]
  have key : wpList P opsQ (InPost ⟨zR c l D W2, fun _ => False, []⟩ W2 (fI c l D W2) (gI x) .normal s3) (opsQ.toList.take 6) t2 W2 :=
    runLX_ok (env__prod_Catalogue_List_ok K) (fun a' w' F' γ' R' hF' hx' => ⟨rfl, F', γ', R', hF', hx'⟩) _ 0 _ t2 W2 _ _ (it_rel x hJ2 hlw hDw ha2 hc3) (fun b hb => by have := fin2 b hb; omega) (Ext.refl _ _) hq3
  refine listIn (r := none) (n := n) (fun ⟨a, w, q⟩ => Ex.to_out _ q.1.symm) (fun c a w q => by cases q.1) (fun t3 W3 hp => ?_) _ t2 W2 flat_Q3 key
  obtain ⟨_, F3, γ3, R3, hF3, hx3⟩ := hp
  obtain ⟨hJ3, hl3, hD3, ha3, h33⟩ := it_back x hJ2 hlw hDw hl2 hD2 R3 hx3 hk3
  have v11 : t3.tmps.getD 11 undef = y := by have := R3.slots 11; rw [slotV_spec hf11] at this; exact this
  have v12 : t3.tmps.getD 12 undef = .int .i64 (i : Int) := by have := R3.slots 12; rw [slotV_spec hi12] at this; exact this
  obtain ⟨C, v16, hC⟩ : ∃ C, t3.tmps.getD 16 undef = .agg C ∧ All2 (RelC F3 γ3 s3.mem W3) (cvsL Lp (nth [] v.dd i) 0) C.toList := by
    have := R3.slots 16; rw [aggS_spec hc16] at this; exact this
  have hC' := cv_shift (γ2 := gR c) (m2 := (sR (i : Int) (nth [] v.dd i) v.id v.day).mem) (F2 := fR c l D W3) (fun g hz => by
    obtain ⟨z1, z2, _⟩ := R3.zok g hz
    have B := R3.below.size
    have := c.l6; have := c.l7; have := hJ2.bel.size
    have ll : l < W2.heap.size := (Array.getElem?_eq_some_iff.1 hl2).1
    have lD : D < W2.heap.size := (Array.getElem?_eq_some_iff.1 hD2).1
    rcases z2 with z2 | z2 | z2
    · have z2 : zR c l D W2 g := z2
      exact ⟨z1, z2.2⟩
    · exact ⟨z1, by omega, by omega, by omega, by omega⟩
    · exact z2.elim) _ _ _ _ hC
  -- the round
  cases hrn : rnd K (i : Int) (nth [] v.dd i) v.id v.day with
  | none => rw [scan, hrn] at hsc; cases hsc
  | some z =>
  rw [scan, hrn, Option.bind_some] at hsc
  have hyl : (Instr.yield l #[.int .i64 (i : Int), .agg C]).run P W3 = .ok (.round l ρ.fn ((a.tmps.setIfInBounds 25 (.int .i64 (i : Int))).setIfInBounds 26 (.agg C)) asg bdy) W3 := by
    have := run_yield (P := P) (args := #[.int .i64 (i : Int), .agg C]) hl3 (by rw [hpa]; rfl)
    rw [this, hpa, htm, has, hbd]
    simp
  show wpListIn Fence.wide n P opsQ _ [opY, opN] t3 W3
  refine wpListIn_plain opY_eq.2.1 fun K1 hK1 => yieldIn (v11.trans hy) v12 v16 hyl ((round_in (n := n - 1) (fn := ρ.fn) hJ3 hC' hl3 hst hpe hD3 hlw hDw hlD hrn).mono fun e W4 hr => ?_)
  cases z with
  | inl u =>
    obtain ⟨rfl, hJ4, hl4, hD4⟩ := hr
    refine ⟨true, rfl, hK1 _ _ (wpListIn_plain opN_eq.2.1 fun K2 hK2 => notIn (b := true) (put_eq' (by rw [ha3.sz]; decide)) (hK2 _ _ (wpListIn_nil ?_)))⟩
    obtain ⟨t4, ht4⟩ : ∃ t4, t4 = (t3.put (some 17) (.bool true)).put (some 18) (.bool (!true)) := ⟨_, rfl⟩
    have ha4 : Ia x y t4 := ht4 ▸ (ha3.put (by decide) (by decide)).put (by decide) (by decide)
    have h34 : t4.tmps.getD 3 undef = .int .i64 (i : Int) := by rw [ht4, put_ne (by decide), put_ne (by decide)]; exact h33
    have h18 : t4.eval (.tmp 18) = .bool false := by
      show t4.tmps.getD 18 undef = _
      rw [ht4]
      exact put_eq' (by rw [(ha3.put (by decide) (by decide)).sz]; decide)
    rw [← ht4]
    show (Code.cond (.tmp 18) .ret .skip).wpIn Fence.wide n P _ t4 W4
    refine wpIn_cond_false h18 (wpIn_skip ?_)
    show Q2.wpIn Fence.wide n P _ t4 W4
    have hsc' : scan K v.dd v.id v.day i = some o := hsc
    have fin2 : ∀ b, (fI c l D W4) b → b < 2 := fun b hb => hb
    have hc3 : RelC (fI c l D W4) (gI x) (sI y (.val (.int .i64 (i : Int))) v.dd).mem W4 (.val (.int .i64 (i : Int))) (t4.tmps.getD 3 undef) := h34
    have e2 := (den2_eq _).symm.trans (T2_eq K y (i : Int) v.dd)
    unfold T2 at e2
    rw [T.den_bind] at e2
    cases hq2 : (runC P (env K) lenv0 Q2 (sI y (.val (.int .i64 (i : Int))) v.dd)).den with
    | none => rw [hq2] at e2; cases e2
    | some z =>
    obtain ⟨ee, s5⟩ := z
    rw [hq2] at e2
    simp only [Option.bind_some] at e2
    cases ee with
    | exit => exact (den_fail e2).elim
    | ret => exact (den_fail e2).elim
    | pan => exact (den_fail e2).elim
    | normal =>
    obtain ⟨kv, hk5, e2⟩ := den_opt e2
    obtain rfl : kv = (y, .int .i64 (IntKind.i64.wrap ((i : Int) - 1))) := by simpa [T.den] using e2
    refine wpIn_mono (runC_in (r := none) (n := n) (env__prod_Catalogue_List_ok K) Q2 flat_Q2 _ _ _ hq2 (fun t m e => by cases e) ⟨zR c l D W4, fun _ => False, []⟩ W4 _ W4 (fI c l D W4) (gI x) (it_rel x hJ4 hlw hDw ha4 hc3) fin2) ?_
    rintro ex t5 W5 ⟨rfl, F5, γ5, R5, hF5, hx5⟩
    obtain ⟨hJ5, hl5, hD5, ha5, h35⟩ := it_back x hJ4 hlw hDw hl4 hD4 R5 hx5 hk5
    have ew : IntKind.i64.wrap ((i : Int) - 1) = (i : Int) - 1 := wrap_in (by omega) (by omega)
    refine ⟨⟨i, hJ5, hl5, hD5, ha5, by rw [h35, ew], hsc', by omega⟩, ?_⟩
    simp only [h35, h3, ew]
    omega
  | inr r =>
    obtain rfl : Sum.inr r = o := by simpa using hsc
    obtain ⟨rfl, hd4, hl4, hD4⟩ := hr
    refine ⟨false, rfl, hK1 _ _ (wpListIn_plain opN_eq.2.1 fun K2 hK2 => notIn (b := false) (put_eq' (by rw [ha3.sz]; decide)) (hK2 _ _ (wpListIn_nil ?_)))⟩
    obtain ⟨t4, ht4⟩ : ∃ t4, t4 = (t3.put (some 17) (.bool false)).put (some 18) (.bool (!false)) := ⟨_, rfl⟩
    have ha4 : Ia x y t4 := ht4 ▸ (ha3.put (by decide) (by decide)).put (by decide) (by decide)
    have h18 : t4.eval (.tmp 18) = .bool true := by
      show t4.tmps.getD 18 undef = _
      rw [ht4]
      exact put_eq' (by rw [(ha3.put (by decide) (by decide)).sz]; decide)
    rw [← ht4]
    show (Code.cond (.tmp 18) .ret .skip).wpIn Fence.wide n P _ t4 W4
    refine wpIn_cond_true h18 (wpIn_ret ?_)
    exact ⟨ha4.df, _, results_none rfl _ _ _, ⟨_, rfl⟩, hd4, hl4, hD4⟩
end At
namespace At
theorem backward_calls {n : Nat} (a : Option Addr) (l c : Nat) (W : World) : CallsIn Fence.wide n P 29 #[.slice a l c] W fun e w' => e = .returned (.func (.func 33) #[] #[.pointer (some ⟨W.heap.size, 0, none⟩)]) ∧ w' = W.alloc (.cells #[.slice a l c] 51) := by
  refine callsIn_of_wp Go.Proofs.Try.func29 rfl trivial ?_ rfl
  simp only [Go.Proofs.Try.f29, List.size_toArray, List.length_cons, List.length_nil, Nat.reduceAdd, Nat.reduceSub, Array.replicate_succ, Array.replicate_zero, List.push_toArray, List.append_toArray, List.nil_append, List.cons_append]
  gi_wp2
  go_ret
  exact ⟨rfl, rfl⟩
theorem enters33 : ∀ (args : Array Value) (w : World), (callFunc 33 args).run P w = .ok (.enter 33 args) w := enters_of Go.Proofs.Try.func33 (by kernel_rfl) rfl
end At
namespace At
variable {F : NS} {γ : GM} {s : St} {a : Act} {ws : World} {A : Ctx} {w0 : World}
/-- From a later beginning back to the first. -/
theorem rel_back {w9 : World} {F' : NS} {γ' : GM} {s' : St} {a' : Act} {w' : World} {d : List Deferred} (R : Rel A w0 F γ s a w9) (R' : Rel ⟨F.z, Owned γ s.mem, d⟩ w9 F' γ' s' a' w') : Rel { A with d := d } w0 F' γ' s' a' w' where
  below := R.below.call R'.below R.below.size fun g ⟨b, e, base, h1, h2, h3⟩ => (R.own b e g base h1 h2 h3).1
  memr := R'.memr
  own b e g base hb ho hg := ⟨by
    rcases (R'.own b e g base hb ho hg).1 with h | ⟨b', e', base', h1, h2, h3⟩
    · exact .inl (Nat.le_trans R.below.size h)
    · exact (R.own b' e' g base' h1 h2 h3).1, (R'.own b e g base hb ho hg).2⟩
  nofr := R'.nofr
  shr := R'.shr
  bnd := R'.bnd
  maps := R'.maps
  zok g hz := ⟨(R'.zok g hz).1, by
    rcases (R'.zok g hz).2.1 with h | h | ⟨b', e', base', h1, h2, h3⟩
    · exact (R.zok g h).2.1
    · exact .inr (.inl (Nat.le_trans R.below.size h))
    · exact .inr (R.own b' e' g base' h1 h2 h3).1, (R'.zok g hz).2.2⟩
  rts := R'.rts
  defers := R'.defers
  size := R'.size
  slots := R'.slots
/-- Where something else has turned. -/
theorem rel_elsewhere {w w' : World} (R : Rel A w0 F γ s a w) {I : Nat → Prop} (hB : Bel I w.heap.size w w') (hI : ∀ g, Tracked F γ s.mem g → ¬ I g) (h0 : ∀ g, I g → w0.heap.size ≤ g ∨ A.i g) : Rel A w0 F γ s a w' :=
  have R2 := R.reroot hB hI
  { below := R.below.call hB R.below.size h0, memr := R2.memr, own := R.own, nofr := R2.nofr, shr := R.shr, bnd := R2.bnd, maps := R2.maps, zok := fun g hz => ⟨(R2.zok g hz).1, (R.zok g hz).2⟩, rts := R.rts, defers := R.defers, size := R.size, slots := R2.slots }
/-- What the function must come to. -/
def post (n : Nat) (ur : List U) (Z : Nat → Prop) (γe : GM) (es : List Ent) (w : World) : Exit → Act → World → Prop := bodyPostM Fence.wide n P Go.Proofs.Try.f19 fun e w' => ∃ V, e = .returned V ∧ AnsAt args res ur Z γe es w V w'
theorem leave_plain {n : Nat} {us ur : List U} {Z : Nat → Prop} {γe : GM} {w : World} {Vs : List Value} {ps : List PV} {es : List Ent} {r : RT} (hmk : mkPs 0 args us = some (ps, es, [])) (hA : All2 (RelP ⟨fun b => b < es.length, Z⟩ γe (memOf es) w) ps Vs) (hdec : ∀ u, dec u = some r → ur = u)
    {s1 : St} (h : (fin us s1).den = some r) {a' : Act} {w' : World} {F' : NS} {γ' : GM} (R' : Rel ⟨Z, ownedOf γe es, []⟩ w F' γ' s1 a' w') (hrt : s1.rt.map γ' = (rootIds 0 args).map γe) : post n ur Z γe es w .ret a' w' := by
  unfold fin at h
  rw [hmk] at h
  obtain ⟨v, h1, h2⟩ := answers hdec hmk hA h R' hrt
  have hd : a'.defers = [] := R'.defers
  show LeavesInM Fence.wide n P Go.Proofs.Try.f19 a'.tmps _ a'.defers .returning w'
  rw [hd]
  exact ⟨v, h1, h2⟩
theorem leave_mark {n : Nat} {us ur : List U} {Z : Nat → Prop} {γe : GM} {w : World} {Vs : List Value} {ps : List PV} {es : List Ent} {r : RT} (hmk : mkPs 0 args us = some (ps, es, [])) (hA : All2 (RelP ⟨fun b => b < es.length, Z⟩ γe (memOf es) w) ps Vs) (hdec : ∀ u, dec u = some r → ur = u)
    {s1 : St} (h : (fin us s1).den = some r) {a' : Act} {w' : World} {F' : NS} {γ' : GM} {D : Nat} (R' : Rel ⟨Z, ownedOf γe es, [{ target := .collected D, args := #[] }]⟩ w F' γ' s1 a' w') (hD : w'.heap[D]? = some (.deferred (some []))) (hDt : ∀ g, Tracked F' γ' s1.mem g → g ≠ D) (hD0 : w.heap.size ≤ D) (hrt : s1.rt.map γ' = (rootIds 0 args).map γe) : post n ur Z γe es w .ret a' w' := by
  unfold fin at h
  rw [hmk] at h
  have hd : a'.defers = [{ target := .collected D, args := #[] }] := R'.defers
  have R2 := rel_elsewhere R' (bel_put (.deferred none) hD rfl) hDt (fun g e => .inl (e ▸ hD0))
  obtain ⟨v, h1, h2⟩ := answers hdec hmk hA h R2 hrt
  show LeavesInM Fence.wide n P Go.Proofs.Try.f19 a'.tmps _ a'.defers .returning w'
  rw [hd]
  refine ⟨by simp, .inl ⟨D, _, rfl, run_takeDeferred hD, ?_⟩⟩
  exact ⟨v, h1, h2⟩
theorem see_spec {s : St} {v : Seen} (h : see s = some v) : nth undefS s.tmps 23 = .pv (.one (.slf v.bl)) ∧ nth undefS s.tmps 4 = .pv (.one (.ptr v.b4 0 0 0)) ∧ nth undefS s.tmps 5 = .pv (.one (.ptr v.b5 0 0 0)) ∧ nth undefS s.tmps 6 = .pv (.one (.ptr v.b6 0 0 0)) ∧ nth undefS s.tmps 7 = .pv (.one (.ptr v.b7 0 0 0)) ∧
    (∃ o, s.mem v.bl = some ⟨o, .grow Lp v.dd⟩) ∧ (∃ o, s.mem v.b4 = some ⟨o, .cells [.val (.int .i64 v.id)]⟩) ∧ (∃ o, s.mem v.b5 = some ⟨o, .cells [.val (.int .i64 v.day)]⟩) ∧ s.mem v.b6 = some ⟨true, .cells z6⟩ ∧ s.mem v.b7 = some ⟨true, .cells z7⟩ ∧
    v.b6 ≠ v.b4 ∧ v.b6 ≠ v.b5 ∧ v.b6 ≠ v.b7 ∧ v.b6 ≠ v.bl ∧ v.b7 ≠ v.b4 ∧ v.b7 ≠ v.b5 ∧ v.b7 ≠ v.bl ∧ s.tmps.length = 40 := by
  unfold see at h
  split at h
  · rename_i bl b4 b5 b6 b7 h23 h4 h5 h6 h7
    split at h
    · rename_i o0 L dd o4 c4 o5 c5 c6 c7 m0 m4 m5 m6 m7
      split at h
      · rename_i id day hid hday hb
        obtain rfl := Option.some.inj h
        simp only [Bool.and_eq_true] at hb
        obtain ⟨⟨⟨⟨⟨⟨⟨⟨⟨⟨x1, x2⟩, x3⟩, x4⟩, x5⟩, x6⟩, x7⟩, x8⟩, x9⟩, x10⟩, x11⟩ := hb
        exact ⟨h23, h4, h5, h6, h7, ⟨_, by rw [m0, shsEq_spec x1]⟩, ⟨_, by rw [m4, one64_spec hid]⟩, ⟨_, by rw [m5, one64_spec hday]⟩, by rw [m6, isZ_spec x2], by rw [m7, isZ1_spec x3], ne_spec x4, ne_spec x5, ne_spec x6, ne_spec x7, ne_spec x8, ne_spec x9, ne_spec x10, by rw [← len_eq]; simpa using x11⟩
      · cases h
    · cases h
  · cases h
/-- Where the range begins. -/
theorem cx_of {v : Seen} (R : Rel A w0 F γ s a ws) (hs : see s = some v) : ∃ c : Cx F γ s a ws v, (∀ g, c.I g → ∃ b e base, (b = v.b6 ∨ b = v.b7) ∧ s.mem b = some e ∧ e.own = true ∧ γ b = some (g, base)) ∧ ∀ g p, γ v.bl = some (g, p) → g < ws.heap.size ∧ g ≠ c.g6 ∧ g ≠ c.g7 := by
  obtain ⟨t23, t4, t5, t6, t7, ⟨ol, ml⟩, ⟨o4, m4⟩, ⟨o5, m5⟩, m6, m7, n1, n2, n3, n4, n5, n6, n7, hlen⟩ := see_spec hs
  have hsz : a.tmps.size = 40 := by rw [R.size, hlen]
  have p : ∀ q b, nth undefS s.tmps q = .pv (.one (.ptr b 0 0 0)) → ∃ g base, γ b = some (g, base) ∧ a.tmps.getD q undef = .pointer (some ⟨g, base + (0 * 0 + 0), none⟩) := fun q b h => by
    have := R.slots q; rw [h] at this
    exact this.2.1
  obtain ⟨g4, p4, c4, k4⟩ := p _ _ t4
  obtain ⟨g5, p5, c5, k5⟩ := p _ _ t5
  obtain ⟨g6, p6, c6, k6⟩ := p _ _ t6
  obtain ⟨g7, p7, c7, k7⟩ := p _ _ t7
  have d6 := (R.own v.b6 _ g6 p6 m6 rfl c6).2
  have d7 := (R.own v.b7 _ g7 p7 m7 rfl c7).2
  refine ⟨⟨g4, p4, g5, p5, g6, p6, g7, p7, c4, c5, c6, c7, k4, k5, k6, k7, hsz, R.bnd _ _ _ _ m4 c4, R.bnd _ _ _ _ m5 c5, R.bnd _ _ _ _ m6 c6, R.bnd _ _ _ _ m7 c7, fun e => d6 _ _ _ _ (Ne.symm n1) m4 c4 e.symm, fun e => d6 _ _ _ _ (Ne.symm n2) m5 c5 e.symm, fun e => d6 _ _ _ _ (Ne.symm n3) m7 c7 e.symm,
    fun e => d7 _ _ _ _ (Ne.symm n5) m4 c4 e.symm, fun e => d7 _ _ _ _ (Ne.symm n6) m5 c5 e.symm, (R.memr _ _ m4).2, (R.memr _ _ m5).2, (R.memr _ _ m6).2, (R.memr _ _ m7).2, R.nofr _ _ _ _ m6 rfl c6, R.nofr _ _ _ _ m7 rfl c7, fun g hg => ⟨(R.zok g hg).1, fun e => (R.zok g hg).2.2 _ _ _ m6 rfl (e ▸ c6), fun e => (R.zok g hg).2.2 _ _ _ m7 rfl (e ▸ c7)⟩⟩, fun g hg => ?_, fun g p hg => ⟨R.bnd _ _ _ _ ml hg, d6 _ _ _ _ (Ne.symm n4) ml hg, d7 _ _ _ _ (Ne.symm n7) ml hg⟩⟩
  rcases hg with rfl | rfl
  · exact ⟨v.b6, _, _, .inl rfl, m6, rfl, c6⟩
  · exact ⟨v.b7, _, _, .inr rfl, m7, rfl, c7⟩
end At
namespace At
variable {F : NS} {γ : GM} {s : St} {a : Act} {ws : World} {A : Ctx} {w0 : World}
noncomputable def opB : Oper := nth { dst := none, op := .move (.tmp 0), type := 0, pos := "", after := #[], guard := none } ops5.toList 4
theorem ops5_eq : ops5.toList = ops5.toList.take 4 ++ [opB] := by kernel_rfl
theorem opB_eq : opB.op = .call { callee := .value (.func 29), args := #[.tmp 23], argTypes := #[51] } ∧ opB.guard = none ∧ opB.dst = some 24 := ⟨by kernel_rfl, by kernel_rfl, by kernel_rfl⟩
theorem enters29 : ∀ (args : Array Value) (w : World), (callFunc 29 args).run P w = .ok (.enter 29 args) w := enters_of Go.Proofs.Try.func29 (by kernel_rfl) rfl
theorem backIn {n : Nat} {t : Act} {W : World} {K : Act → World → Prop} {Q : Exit → Act → World → Prop} {la : Option Addr} {ll cp : Nat} (h : t.tmps.getD 23 undef = .slice la ll cp) (hK : K (t.put (some 24) (.func (.func 33) #[] #[.pointer (some ⟨W.heap.size, 0, none⟩)])) (W.alloc (.cells #[.slice la ll cp] 51))) : opB.wpIn Fence.wide n P t W K Q := by
  obtain ⟨o1, o2, o3⟩ := opB_eq
  have e : (execOp t.eval opB).run P W = .ok (.enter 29 #[.slice la ll cp]) W := by
    have h1 : t.eval (.tmp 23) = .slice la ll cp := h
    have h2 : t.eval (.func 29) = .func (.func 29) #[] #[] := rfl
    simp only [execOp, o1, resolve, h2, Deferred.ofValue, Sem.run_bind, Sem.run_pure, Result.andThen_ok, invoke, List.map_toArray, List.map_cons, List.map_nil, h1]
    simp only [Array.empty_append, Array.append_empty, enters29]
  unfold Oper.wpIn
  refine ⟨fun _ _ => trivial, ?_⟩
  show opB.uponIn Fence.wide n P t K Q ((execOp t.eval opB).run P W)
  rw [e]
  refine ⟨fun h => (by cases h), (backward_calls la ll cp W).mono fun e W' he => ?_⟩
  obtain ⟨rfl, rfl⟩ := he
  show K (t.put opB.dst _) _
  rw [o3]; exact hK
theorem intsV_val : ∀ (ks : List IntKind) (r : List Int) (j k : Nat) (c : CV), (intsV ks r j)[k]? = some c → ∃ v, c = .val v
  | [], r, j, k, c, h => by simp [intsV] at h
  | _ :: ks, r, j, 0, c, h => ⟨_, (Option.some.inj h).symm⟩
  | _ :: ks, r, j, k + 1, c, h => intsV_val ks r (j + 1) k c h
theorem recs_vals {ks : List IntKind} {xs : List (List Int)} {i j : Nat} {c : CV} (h : (Blk.recs ks xs).at i j = some c) : ∃ v, c = .val v := by
  simp only [Blk.at] at h
  split at h
  · exact intsV_val _ _ _ _ _ h
  · cases h
theorem runC_rt {ev : FuncId → Option Vm.Spec} {lenv : Nat → Option LS} : ∀ (c : Code), flatC c = true → ∀ (s : St) (e : Ex) (s' : St), (runC P ev lenv c s).den = some (e, s') → s'.rt = s.rt
  | .skip, _, s, e, s', h => by simp only [runC, T.den, Option.some.injEq, Prod.mk.injEq] at h; rw [h.2]
  | .ret, _, s, e, s', h => by simp only [runC, T.den, Option.some.injEq, Prod.mk.injEq] at h; rw [h.2]
  | .exit id, _, s, e, s', h => by simp only [runC, T.den, Option.some.injEq, Prod.mk.injEq] at h; rw [h.2]
  | .seq x y, hc, s, e, s', h => by
    simp only [flatC, Bool.and_eq_true] at hc
    simp only [runC] at h
    rw [T.den_bind] at h
    cases hx : (runC P ev lenv x s).den with
    | none => rw [hx] at h; cases h
    | some z =>
      obtain ⟨e1, s1⟩ := z
      rw [hx] at h
      simp only [Option.bind_some] at h
      have h1 := runC_rt x hc.1 s e1 s1 hx
      cases e1 with
      | normal => exact (runC_rt y hc.2 s1 e s' h).trans h1
      | exit i => simp only [T.den, Option.some.injEq, Prod.mk.injEq] at h; rw [← h.2]; exact h1
      | ret => simp only [T.den, Option.some.injEq, Prod.mk.injEq] at h; rw [← h.2]; exact h1
      | pan t n => simp only [T.den, Option.some.injEq, Prod.mk.injEq] at h; rw [← h.2]; exact h1
  | .region id ops false, hc, s, e, s', h => by
    simp only [runC] at h
    exact runLX_rt _ _ _ _ _ h
  | .cond c x y, hc, s, e, s', h => by
    have hcc : flatC x = true ∧ flatC y = true := by simpa only [flatC, Bool.and_eq_true] using hc
    simp only [runC] at h
    split at h
    · split at h
      · simp only [T.den] at h
        split at h
        · have h2 := runC_rt x hcc.1 _ e s' h; exact h2
        · have h2 := runC_rt y hcc.2 _ e s' h; exact h2
      · exact (den_fail h).elim
    · simp only [T.den] at h
      split at h
      · exact runC_rt _ (hcc.1) _ e s' h
      · exact runC_rt _ (hcc.2) _ e s' h
    · exact (den_fail h).elim
  | .block id c, hc, s, e, s', h => by
    simp only [flatC] at hc
    simp only [runC] at h
    rw [T.den_bind] at h
    cases hx : (runC P ev lenv c s).den with
    | none => rw [hx] at h; cases h
    | some z =>
      obtain ⟨e1, s1⟩ := z
      rw [hx] at h
      simp only [Option.bind_some] at h
      have h1 := runC_rt c hc s e1 s1 hx
      cases e1 with
      | normal => simp only [T.den, Option.some.injEq, Prod.mk.injEq] at h; rw [← h.2]; exact h1
      | ret => simp only [T.den, Option.some.injEq, Prod.mk.injEq] at h; rw [← h.2]; exact h1
      | pan t n => simp only [T.den, Option.some.injEq, Prod.mk.injEq] at h; rw [← h.2]; exact h1
      | exit i =>
        simp only at h
        split at h
        · simp only [T.den, Option.some.injEq, Prod.mk.injEq] at h; rw [← h.2]; exact h1
        · simp only [T.den, Option.some.injEq, Prod.mk.injEq] at h; rw [← h.2]; exact h1
  | .region id ops true, hc, _, _, _, _ => by simp [flatC] at hc
  | .loop c, hc, _, _, _, _ => by simp [flatC] at hc
  | .rangeFunc .., hc, _, _, _, _ => by simp [flatC] at hc
  | .scope _, hc, _, _, _, _ => by simp [flatC] at hc
  | .label _, hc, _, _, _, _ => by simp [flatC] at hc
  | .goto _, hc, _, _, _, _ => by simp [flatC] at hc
  | .refuse _, hc, _, _, _, _ => by simp [flatC] at hc
theorem list8 : ∀ l : List Int, l.length = 8 → ∃ y0 y1 y2 y3 y4 y5 y6 y7, l = [y0, y1, y2, y3, y4, y5, y6, y7]
  | [y0, y1, y2, y3, y4, y5, y6, y7], _ => ⟨_, _, _, _, _, _, _, _, rfl⟩
theorem flat_X4 : flatC X4 = true := by kernel_rfl
theorem Lp_len : len Lp = 9 := rfl
set_option maxHeartbeats 1000000 in
theorem mid_in {K n : Nat} {us ur : List U} {Z : Nat → Prop} {γe : GM} {w W : World} {Vs : List Value} {ps : List PV} {es : List Ent} {r : RT} (hmk : mkPs 0 args us = some (ps, es, [])) (hA : All2 (RelP ⟨fun b => b < es.length, Z⟩ γe (memOf es) w) ps Vs) (hdec : ∀ u, dec u = some r → ur = u)
    (R : Rel ⟨Z, ownedOf γe es, []⟩ w F γ s a W) (hF : ∀ b, F b → b < s.nx) (hrt : s.rt.map γ = (rootIds 0 args).map γe) (h : (midT K us { s with tmps := put s.tmps 24 anyS }).den = some r) :
    wpListIn Fence.wide n P ops5 (Exit.then ((Code.block 0 (.rangeFunc (.tmp 24) #[25, 26] asg bdy)).wpIn Fence.wide n P (Exit.then (X4.wpIn Fence.wide n P (post n ur Z γe es w)) (post n ur Z γe es w))) (Exit.then (X4.wpIn Fence.wide n P (post n ur Z γe es w)) (post n ur Z γe es w))) [opB] a W := by
  obtain ⟨s5, hs5⟩ : ∃ s5 : St, s5 = { s with tmps := put s.tmps 24 anyS } := ⟨_, rfl⟩
  rw [← hs5] at h
  unfold midT at h
  split at h
  case h_1 => exact (den_fail h).elim
  rename_i v hv
  obtain ⟨hdl, h⟩ := den_req h
  have hdl : v.dd.length < 4611686018427387904 := of_decide_eq_true hdl
  simp only [T.den] at h
  obtain ⟨t23, t4, t5, t6, t7, ⟨ol, ml⟩, ⟨o4, m4⟩, ⟨o5, m5⟩, m6, m7, n1, n2, n3, n4, n5, n6, n7, hlen⟩ := see_spec hv
  -- the slice
  have hVs : nth undefS s.tmps 23 = .pv (.one (.slf v.bl)) := by
    rw [hs5] at t23
    have : nth undefS (put s.tmps 24 anyS) 23 = _ := t23
    rw [nth_put, if_neg (fun e => by cases e.1)] at this
    exact this
  obtain ⟨la, cap, hV⟩ : ∃ la cap, a.tmps.getD 23 undef = .slice la v.dd.length cap := by
    have hm : s.mem v.bl = some ⟨ol, .grow Lp v.dd⟩ := by rw [hs5] at ml; exact ml
    have := R.slots 23; rw [hVs] at this
    rcases this.2.2 _ hm with ⟨z, ad, hV⟩ | ⟨g, base, cap, _, hV, _⟩
    · have z : v.dd.length = 0 := z
      exact ⟨ad, 0, by rw [z]; exact hV⟩
    · exact ⟨_, cap, hV⟩
  refine wpListIn_plain opB_eq.2.1 fun K1 hK1 => backIn hV (hK1 _ _ (wpListIn_nil ?_))
  obtain ⟨W5, hW5⟩ : ∃ W5, W5 = W.alloc (.cells #[.slice la v.dd.length cap] 51) := ⟨_, rfl⟩
  obtain ⟨cl, hcl⟩ : ∃ cl, cl = Value.func (.func 33) #[] #[.pointer (some ⟨W.heap.size, 0, none⟩)] := ⟨_, rfl⟩
  rw [← hW5, ← hcl]
  have hB5 : Bel (fun _ => False) W.heap.size W W5 := hW5 ▸ (Bel.refl _ W).alloc (Nat.le_refl _) _
  have s5z : W5.heap.size = W.heap.size + 1 := by rw [hW5]; show (W.heap.push _).size = _; simp
  have R5 : Rel ⟨Z, ownedOf γe es, []⟩ w F γ s5 (a.put (some 24) cl) W5 := by
    have := (rel_elsewhere R hB5 (fun _ _ h => h) (fun _ h => h.elim)).putV (some 24) (v := anyS) (V := cl) trivial
    rw [hs5]; exact this
  obtain ⟨a5, ha5⟩ : ∃ a5, a5 = a.put (some 24) cl := ⟨_, rfl⟩
  rw [← ha5] at R5 ⊢
  obtain ⟨c, hcI, hbl⟩ := cx_of R5 hv
  have ms6 : s.mem v.b6 = some ⟨true, .cells z6⟩ := by rw [hs5] at m6; exact m6
  have ms7 : s.mem v.b7 = some ⟨true, .cells z7⟩ := by rw [hs5] at m7; exact m7
  have b6l := R.bnd v.b6 _ _ _ ms6 c.c6
  have b7l := R.bnd v.b7 _ _ _ ms7 c.c7
  have ha23 : a5.tmps.getD 23 undef = .slice la v.dd.length cap := by rw [ha5, put_ne (by decide)]; exact hV
  obtain ⟨x, hxb⟩ : ∃ x : Lx c, x.bx = W.heap.size := ⟨⟨la, cap, W.heap.size, by
      have := R5.slots 23; rw [t23, ha23] at this
      exact this.2.2 _ ml, (R5.memr _ _ ml).2, hbl, by rw [hW5]; exact heap_alloc_new W _, by omega, by omega⟩, rfl⟩
  have hcl' : cl = Value.func (.func 33) #[] #[ptrI x] := by rw [hcl]; unfold ptrI; rw [hxb]
  have hg : a5.eval (.tmp 24) = .func (.func 33) #[] #[ptrI x] := by
    rw [← hcl']
    show a5.tmps.getD 24 undef = cl
    have h40 := c.sz
    rw [ha5]
    exact put_eq' (by
      have : (a.put (some 24) cl).tmps.size = 40 := ha5 ▸ h40
      have e : (a.put (some 24) cl).tmps.size = a.tmps.size := by show (a.tmps.setIfInBounds 24 cl).size = _; simp
      omega)
  have hF5 : ∀ b, F b → b < s5.nx := fun b hb => by rw [hs5]; exact hF b hb
  have hrt5 : s5.rt.map γ = (rootIds 0 args).map γe := by rw [hs5]; exact hrt
  have hFb6 := (R5.memr _ _ m6).1
  have hFb7 := (R5.memr _ _ m7).1
  have hd5 : a5.defers = [] := R5.defers
  refine wpIn_block (wpIn_rangeFunc ?_)
  intro fn _
  obtain ⟨ρ, hρ⟩ : ∃ ρ : Loop, ρ = { state := .ready, pending := none, fn, tmps := a5.tmps, params := #[25, 26], assign := asg, body := bdy, defers := W5.heap.size } := ⟨_, rfl⟩
  obtain ⟨W6, hW6⟩ : ∃ W6, (W5.alloc (.deferred (some []))).alloc (.loop ρ) = W6 := ⟨_, rfl⟩
  have hl6 : W6.heap[W5.heap.size + 1]? = some (.loop ρ) := by
    rw [← hW6]; have := World.alloc_heap_new (W5.alloc (.deferred (some []))) (.loop ρ); rwa [World.size_alloc] at this
  have hD6 : W6.heap[W5.heap.size]? = some (.deferred (some [])) := by
    rw [← hW6]; exact (Go.RowKit.Below.heap_alloc _ _ _ (by simp)).trans (World.alloc_heap_new W5 _)
  have B6 : Bel (fun _ => False) W5.heap.size W5 W6 := hW6 ▸ ((Bel.refl _ W5).alloc (Nat.le_refl _) _).alloc (by simp) _
  have J6 : J c W6 := (J.start c).later (B6.mono (Nat.le_refl _) fun _ _ h => h.elim)
  refine ⟨W5.heap.size + 1, [{ target := .collected W5.heap.size, args := #[] }], W6, { target := .fn (.func 33) #[ptrI x], args := #[.func (.yield (W5.heap.size + 1)) #[] #[]] }, W6, 33, #[.func (.yield (W5.heap.size + 1)) #[] #[]] ++ #[ptrI x], W6, ?_, ?_, fun _ _ => trivial, ?_, fun h => (by cases h), ?_⟩
  · rw [← hW6, hρ]; exact run_enterLoop_outer _ _ _ _ _
  · simp only [resolve, hg]
    simp [go_sem]
  · simp [invoke, go_sem, enters33]
  cases ho : scan K v.dd v.id v.day v.dd.length with
  | none => rw [ho] at h; cases h
  | some o =>
  rw [ho] at h
  refine (iter_in (n := n - 1) x J6 hl6 (by rw [hρ]) (by rw [hρ]) (by rw [hρ]) (by rw [hρ]) (by rw [hρ]) (by rw [hρ]) hD6 (Nat.le_succ _) (Nat.le_refl _) (by omega) hdl ho).mono ?_
  rintro e W8 ⟨⟨vv, rfl⟩, hit⟩
  obtain ⟨a', ha'⟩ : ∃ a' : Act, a' = { a5 with defers := [{ target := .collected W5.heap.size, args := #[] }] ++ a5.defers } := ⟨_, rfl⟩
  have hda : a'.defers = [{ target := .collected W5.heap.size, args := #[] }] := by rw [ha', hd5]; rfl
  have hta : a'.tmps = a5.tmps := by rw [ha']
  have zlt : ∀ g, F.z g → g < W5.heap.size := fun g hg => (c.zl g hg).1
  have olt : ∀ g, Owned γ s5.mem g → g < W5.heap.size := fun g ⟨b, e, base, h1, h2, h3⟩ => R5.bnd b e g base h1 h3
  cases o with
  | inl u =>
    obtain ⟨J8, hl8, hD8⟩ := hit
    obtain ⟨W9, hW9⟩ : ∃ W9, W9 = W8.putObj (W5.heap.size + 1) (.loop { ρ with state := .exhausted }) := ⟨_, rfl⟩
    have B9 : Bel (fun g => g = W5.heap.size + 1) W8.heap.size W8 W9 := hW9 ▸ bel_put _ hl8 rfl
    refine ⟨none, W9, by rw [hW9]; exact (run_endLoop (P := P) hl8 (by rw [hρ]; simp)).trans (by rw [show ρ.pending = none by rw [hρ]]), ?_⟩
    rw [← ha']
    show X4.wpIn Fence.wide n P _ a' W9
    have J9 : J c W9 := J8.later (B9.mono (Nat.le_refl _) fun g _ e => e ▸ Nat.le_succ _)
    have hD9 : W9.heap[W5.heap.size]? = some (.deferred (some [])) := (B9.block _ (Array.getElem?_eq_some_iff.1 hD8).1 (by omega)).trans hD8
    have R9 : Rel ⟨Z, ownedOf γe es, a'.defers⟩ w F γ s5 a' W9 := R5.turn (I := c.I) (X := fun b => b = v.b6 ∨ b = v.b7) (m' := s5.mem) (nx' := s5.nx) J9.bel hta (fun _ h => h) rfl (fun _ _ => rfl) hcI (fun _ _ => rfl)
      (fun b e hb he => by
        rcases hb with rfl | rfl
        · rw [m6] at he; obtain rfl := Option.some.inj he; exact ⟨hFb6, J9.r6, rfl, fun _ _ _ e => by cases e⟩
        · rw [m7] at he; obtain rfl := Option.some.inj he; exact ⟨hFb7, J9.r7, rfl, fun _ _ _ e => by cases e⟩)
      (fun b e hb _ he => by
        rcases hb with rfl | rfl
        · rw [m6] at he; obtain rfl := Option.some.inj he; exact ⟨_, m6, rfl, AsLong.refl _⟩
        · rw [m7] at he; obtain rfl := Option.some.inj he; exact ⟨_, m7, rfl, AsLong.refl _⟩)
      (fun b e g base hb he hg => by
        rcases hb with rfl | rfl
        · rw [c.c6] at hg; cases hg; exact J9.f6
        · rw [c.c7] at hg; cases hg; exact J9.f7)
      (fun b e g base hb hn => by rcases hb with rfl | rfl; exact (hn hFb6).elim; exact (hn hFb7).elim)
    have h : ((runC P (env K) lenv0 X4 s5).bind fun x => match x with | (.ret, s1) => fin us s1 | _ => .fail).den = some r := h
    rw [T.den_bind] at h
    cases hx4 : (runC P (env K) lenv0 X4 s5).den with
    | none => rw [hx4] at h; cases h
    | some z =>
    obtain ⟨ee, s6⟩ := z
    rw [hx4] at h
    simp only [Option.bind_some] at h
    cases ee with
    | normal => exact (den_fail h).elim
    | exit => exact (den_fail h).elim
    | pan => exact (den_fail h).elim
    | ret =>
    have R9r := R9.reroot (Bel.refl (fun _ => False) W9) (fun _ _ h => h)
    refine wpIn_mono (runC_in (r := none) (n := n) (env__prod_Catalogue_List_ok K) X4 flat_X4 _ _ _ hx4 (fun t m e => by cases e) _ W9 a' W9 F γ R9r hF5) ?_
    rintro ex a10 W10 ⟨rfl, F10, γ10, R10, hF10, hx10⟩
    have R11 := rel_back R9 R10
    have Dlt9 : W5.heap.size < W9.heap.size := (Array.getElem?_eq_some_iff.1 hD9).1
    have R11 : Rel ⟨Z, ownedOf γe es, [{ target := .collected W5.heap.size, args := #[] }]⟩ w F10 γ10 s6 a10 W10 := by rw [← hda]; exact R11
    refine leave_mark hmk hA hdec h R11 ((R10.below.block _ Dlt9 fun ho => Nat.lt_irrefl _ (olt _ ho)).trans hD9) (fun g hg => ?_) R5.below.size ?_
    · rcases R10.tracked hg with h | h | h
      · have := zlt g h; omega
      · omega
      · have := olt g h; omega
    · rw [runC_rt X4 flat_X4 _ _ _ hx4, ← hrt5]
      exact List.map_congr_left fun b hb => hx10.2 b (R5.rts b hb)
  | inr r9 =>
    obtain ⟨hd8, hl8, hD8⟩ := hit
    obtain ⟨W9, hW9⟩ : ∃ W9, W9 = W8.putObj (W5.heap.size + 1) (.loop { ({ ρ with state := .done, pending := some .ret } : Loop) with state := .exhausted }) := ⟨_, rfl⟩
    have B9 : Bel (fun g => g = W5.heap.size + 1) W8.heap.size W8 W9 := hW9 ▸ bel_put _ hl8 rfl
    refine ⟨some .ret, W9, by rw [hW9]; exact run_endLoop (P := P) hl8 (by simp), ?_⟩
    rw [← ha']
    refine wpIn_ret ?_
    show post n ur Z γe es w .ret a' W9
    have hd9 := hd8.later (Nat.le_succ _) (Nat.le_refl _) (B9.mono (Nat.le_refl _) fun g _ e => .inl e)
    have hD9 : W9.heap[W5.heap.size]? = some (.deferred (some [])) := (B9.block _ (Array.getElem?_eq_some_iff.1 hD8).1 (by omega)).trans hD8
    obtain ⟨Ad, wd, Fd, γd, sd, ad, bn, Rd, hbel, k2, k3, q2, q3, qb, hl8', htr, hfr⟩ := hd9
    have hq : ¬ F s5.nx := fun hh => Nat.lt_irrefl _ (hF5 _ hh)
    have nb6 : v.b6 ≠ s5.nx := fun e => hq (e ▸ hFb6)
    have nb7 : v.b7 ≠ s5.nx := fun e => hq (e ▸ hFb7)
    obtain ⟨γ', hγ'⟩ : ∃ γ' : GM, γ' = fun b => if b = s5.nx then γd bn else γ b := ⟨_, rfl⟩
    have γq : γ' s5.nx = γd bn := by rw [hγ']; simp
    have γo : ∀ b, F b → γ' b = γ b := fun b hb => by
      rw [hγ']
      exact if_neg (fun e : b = s5.nx => hq (by rw [← e]; exact hb))
    obtain ⟨m', hm'⟩ : ∃ m', m' = (sF s5 v r9).mem := ⟨_, rfl⟩
    obtain ⟨y0, y1, y2, y3, y4, y5, y6, y7, hr9⟩ := list8 r9.1 hl8'
    have e6 : m' v.b6 = some ⟨true, .cells [.val (.int .i64 y0), .val (.int .i64 y1), .val (.int .i64 y2), .val (.int .i64 y3), .val (.int .i64 y4), .val (.int .i64 y5), .val (.int .i64 y6), .val (.int .i64 y7), .slf s5.nx]⟩ := by
      rw [hm']; simp only [sF, updM, hr9]
      simp [nb6, n3, nth]
    have e7 : m' v.b7 = some ⟨true, .cells z7⟩ := by
      rw [hm']; simp only [sF, updM]
      simp [nb7, z7]
    have eq : m' s5.nx = some ⟨true, .recs [.i64, .i64] r9.2⟩ := by
      rw [hm']; simp only [sF, updM]
      simp
    have eo : ∀ b, ¬ (b = v.b6 ∨ b = v.b7 ∨ b = s5.nx) → m' b = s5.mem b := fun b hb => by
      rw [hm']; simp only [sF, updM]
      simp only [not_or] at hb
      simp [hb.1, hb.2.1, hb.2.2]
    have R9 : Rel ⟨Z, ownedOf γe es, a'.defers⟩ w ⟨fun b => F b ∨ b = s5.nx, F.z⟩ γ' (sF s5 v r9) a' W9 := by
      have := R5.turn (I := c.I) (X := fun b => b = v.b6 ∨ b = v.b7 ∨ b = s5.nx) (m' := m') (nx' := s5.nx + 64) (F' := ⟨fun b => F b ∨ b = s5.nx, F.z⟩) (γ' := γ') hbel hta (fun _ h => .inl h) rfl γo
        (fun g hg => by obtain ⟨b, e, base, h1, h2⟩ := hcI g hg; exact ⟨b, e, base, h1.imp id .inl, h2⟩) eo ?_ ?_ ?_ ?_
      · rw [hm'] at this; exact this
      · intro b e hb he
        rcases hb with rfl | rfl | rfl
        · rw [e6] at he; obtain rfl := Option.some.inj he
          refine ⟨.inl hFb6, relB_newcells (Rd.memr 2 _ q2).2 (by rw [hr9]; rfl) (by rw [γo _ hFb6, c.c6]; simp [shiftA, k2]) (fun k c1 c2 V hc1 hc2 hV => ?_), rfl, fun _ _ _ e => by cases e⟩
          rw [hr9] at hc1
          match k, hc1, hc2 with
          | 0, hc1, hc2 => cases hc1; cases hc2; exact hV
          | 1, hc1, hc2 => cases hc1; cases hc2; exact hV
          | 2, hc1, hc2 => cases hc1; cases hc2; exact hV
          | 3, hc1, hc2 => cases hc1; cases hc2; exact hV
          | 4, hc1, hc2 => cases hc1; cases hc2; exact hV
          | 5, hc1, hc2 => cases hc1; cases hc2; exact hV
          | 6, hc1, hc2 => cases hc1; cases hc2; exact hV
          | 7, hc1, hc2 => cases hc1; cases hc2; exact hV
          | 8, hc1, hc2 =>
            cases hc1; cases hc2
            refine ⟨.inr rfl, hV.2.1, fun e he => ?_⟩
            rw [eq] at he
            obtain rfl := Option.some.inj he
            exact (hV.2.2 _ qb).name γq
          | k + 9, hc1, hc2 => simp at hc1
        · rw [e7] at he; obtain rfl := Option.some.inj he
          exact ⟨.inl hFb7, relB_vals rfl (by rw [γo _ hFb7, c.c7, k3]) (fun _ _ _ => rfl) (Rd.memr 3 _ q3).2, rfl, fun _ _ _ e => by cases e⟩
        · rw [eq] at he; obtain rfl := Option.some.inj he
          refine ⟨.inr rfl, fun i j cv hc => ?_, rfl, fun _ _ _ e => by cases e⟩
          obtain ⟨g, base, cs, t, V, h1, h2, h3, h4⟩ := (Rd.memr bn _ qb).2 i j cv hc
          obtain ⟨vv, rfl⟩ := recs_vals hc
          exact ⟨g, base, cs, t, V, γq.trans h1, h2, h3, h4⟩
      · intro b e hb hFb he
        rcases hb with rfl | rfl | rfl
        · rw [e6] at he; obtain rfl := Option.some.inj he; exact ⟨_, m6, rfl, rfl, rfl, rfl, fun _ _ h => h⟩
        · rw [e7] at he; obtain rfl := Option.some.inj he; exact ⟨_, m7, rfl, AsLong.refl _⟩
        · exact (hq hFb).elim
      · intro b e g base hb he hg
        rcases hb with rfl | rfl | rfl
        · rw [γo _ hFb6, c.c6] at hg; cases hg; exact Rd.nofr 2 _ _ _ q2 rfl k2
        · rw [γo _ hFb7, c.c7] at hg; cases hg; exact Rd.nofr 3 _ _ _ q3 rfl k3
        · rw [γq] at hg; exact Rd.nofr bn _ _ _ qb rfl hg
      · intro b e g base hb hn he hg
        rcases hb with rfl | rfl | rfl
        · exact (hn hFb6).elim
        · exact (hn hFb7).elim
        · rw [γq] at hg
          refine ⟨hfr g base hg, Rd.bnd bn _ _ _ qb hg, fun b' e' g' base' hb' hn' hne => ?_⟩
          rcases hb' with rfl | rfl | rfl
          · exact (hn' hFb6).elim
          · exact (hn' hFb7).elim
          · exact (hne rfl).elim
    have R9 : Rel ⟨Z, ownedOf γe es, [{ target := .collected W5.heap.size, args := #[] }]⟩ w ⟨fun b => F b ∨ b = s5.nx, F.z⟩ γ' (sF s5 v r9) a' W9 := by rw [← hda]; exact R9
    have h : (fin us (sF s5 v r9)).den = some r := h
    refine leave_mark hmk hA hdec h R9 hD9 (fun g hg => ?_) R5.below.size ?_
    · rcases hg with hz | ⟨b, e, base, hb, hgb⟩
      · have := zlt g hz; omega
      · rw [← hm'] at hb
        by_cases hX : b = v.b6 ∨ b = v.b7 ∨ b = s5.nx
        · rcases hX with rfl | rfl | rfl
          · rw [γo _ hFb6, c.c6] at hgb; cases hgb; have := c.l6; omega
          · rw [γo _ hFb7, c.c7] at hgb; cases hgb; have := c.l7; omega
          · rw [γq] at hgb
            exact (htr g (.inr ⟨bn, _, base, qb, hgb⟩)).2
        · rw [eo b hX] at hb
          rw [γo _ (R5.memr b e hb).1] at hgb
          have := R5.bnd b e g base hb hgb
          omega
    · rw [← hrt5]
      exact List.map_congr_left fun b hb => γo b (R5.rts b hb)
end At
noncomputable def _prod_Catalogue_At_w (K : Nat) : List U → Option At.RT := fun us => match us with | [.d dd0_0, .m m0_1, .i x1, .i x2] => _prod_Catalogue_At K dd0_0 m0_1 x1 x2 | _ => none
noncomputable def _prod_Catalogue_At_enc : At.RT → List U := fun r => [.i (nth 0 r.1.1 0), .i (nth 0 r.1.1 1), .i (nth 0 r.1.1 2), .i (nth 0 r.1.1 3), .i (nth 0 r.1.1 4), .i (nth 0 r.1.1 5), .i (nth 0 r.1.1 6), .i (nth 0 r.1.1 7), .rr r.1.2, .i r.2.1, .d r.2.2.1, .m r.2.2.2]
noncomputable def _prod_Catalogue_At_spec (K : Nat) : Vm.Spec := ⟨At.args, At.res, At.RT, _prod_Catalogue_At_w K, _prod_Catalogue_At_enc⟩
namespace At
theorem flat_R0 : flatC R0 = true := by kernel_rfl
theorem flat_C1 : flatC C1 = true := by kernel_rfl
theorem flat_C2 : flatC C2 = true := by kernel_rfl
theorem flat_5 : (ops5.toList.take 4).all notDefer = true := by kernel_rfl
theorem dec_enc (u : List U) (r : RT) (h : dec u = some r) : enc r = u := by
  unfold dec at h
  split at h
  · obtain rfl := Option.some.inj h
    rfl
  · cases h
set_option maxHeartbeats 1000000 in
theorem fn_ok (K : Nat) : FnOk P 19 (_prod_Catalogue_At_spec K) := by
  intro us r hG Z γ w Vs ps es hmk hA hM
  have hG : _prod_Catalogue_At_w K us = some r := hG
  have h : (atT K us).den = some r := by
    unfold _prod_Catalogue_At_w at hG
    split at hG
    · exact ((den2_eq _).symm.trans (_prod_Catalogue_At_eq K _ _ _ _)).trans hG
    · cases hG
  have hdec : ∀ u, dec u = some r → enc r = u := fun u hu => dec_enc u r hu
  unfold atT at h
  have hmk' : mkPs 0 args us = some (ps, es, []) := hmk
  rw [hmk'] at h
  simp only at h
  refine (callsIn_wide (n := 5)).1 (callsIn_of_wp_marks (c := b19) Go.Proofs.Try.func19 rfl trivial ?_ rfl)
  show b19.wpIn Fence.wide 5 P (post 5 (enc r) Z γ es w) _ w
  rw [b19_eq]
  have RE := entry_rel (fn := Go.Proofs.Try.f19) hA hM
  have FE : ∀ b, (⟨fun b => b < es.length, Z⟩ : NS) b → b < len es := fun b hb => by rw [len_eq]; exact hb
  -- what comes in is boxed
  rw [T.den_bind] at h
  cases h0 : (runC P (env K) lenv0 R0 ⟨ps.map .pv ++ List.replicate (Go.Proofs.Try.f19.ntmps - len ps) undefS, memOf es, len es, rootIds 0 args⟩).den with
  | none => rw [h0] at h; cases h
  | some z =>
  obtain ⟨e0, s1⟩ := z
  rw [h0] at h
  simp only [Option.bind_some] at h
  cases e0 with
  | exit => exact (den_fail h).elim
  | ret => exact (den_fail h).elim
  | pan => exact (den_fail h).elim
  | normal =>
  have rt1 := runC_rt R0 flat_R0 _ _ _ h0
  refine wpIn_seq (wpIn_mono (runC_in (r := none) (n := 5) (env__prod_Catalogue_List_ok K) R0 flat_R0 _ _ _ h0 (fun t m e => by cases e) _ w _ w _ γ RE FE) ?_)
  rintro ex a1 W1 ⟨rfl, F1, γ1, R1, hF1, hx1⟩
  show (Code.seq C1 _).wpIn Fence.wide 5 P _ a1 W1
  have rtg : ∀ {F' : NS} {γ' : GM} {s' : St}, Ext ⟨fun b => b < es.length, Z⟩ γ F' γ' → s'.rt = rootIds 0 args → s'.rt.map γ' = (rootIds 0 args).map γ := fun hx hr => by
    rw [hr]; exact List.map_congr_left fun b hb => hx.2 b (RE.rts b hb)
  -- is the day one?
  simp only at h
  rw [T.den_bind] at h
  cases h1 : (runC P (env K) lenv0 C1 s1).den with
  | none => rw [h1] at h; cases h
  | some z =>
  obtain ⟨e1, s2⟩ := z
  rw [h1] at h
  simp only [Option.bind_some] at h
  have rt2 := (runC_rt C1 flat_C1 _ _ _ h1).trans rt1
  have np1 : ∀ t m, e1 ≠ .pan t m := fun t m e => by subst e; exact den_fail h
  refine wpIn_seq (wpIn_mono (runC_in (r := none) (n := 5) (env__prod_Catalogue_List_ok K) C1 flat_C1 _ _ _ h1 np1 _ w a1 W1 F1 γ1 R1 hF1) ?_)
  rintro ex a2 W2 ⟨rfl, F2, γ2, R2, hF2, hx2⟩
  have hx2 := hx1.trans hx2
  cases e1 with
  | exit => exact (den_fail h).elim
  | pan t m => exact (np1 t m rfl).elim
  | ret => exact leave_plain hmk hA hdec h R2 (rtg hx2 rt2)
  | normal =>
  show (Code.seq C2 _).wpIn Fence.wide 5 P _ a2 W2
  simp only at h
  rw [T.den_bind] at h
  cases h2 : (runC P (env K) lenv0 C2 s2).den with
  | none => rw [h2] at h; cases h
  | some z =>
  obtain ⟨e2, s3⟩ := z
  rw [h2] at h
  simp only [Option.bind_some] at h
  have rt3 := (runC_rt C2 flat_C2 _ _ _ h2).trans rt2
  have np2 : ∀ t m, e2 ≠ .pan t m := fun t m e => by subst e; exact den_fail h
  refine wpIn_seq (wpIn_mono (runC_in (r := none) (n := 5) (env__prod_Catalogue_List_ok K) C2 flat_C2 _ _ _ h2 np2 _ w a2 W2 F2 γ2 R2 hF2) ?_)
  rintro ex a3 W3 ⟨rfl, F3, γ3, R3, hF3, hx3⟩
  have hx3 := hx2.trans hx3
  cases e2 with
  | exit => exact (den_fail h).elim
  | pan t m => exact (np2 t m rfl).elim
  | ret => exact leave_plain hmk hA hdec h R3 (rtg hx3 rt3)
  | normal =>
  show (Code.seq (.seq R5 (.block 0 (.rangeFunc (.tmp 24) #[25, 26] asg bdy))) X4).wpIn Fence.wide 5 P _ a3 W3
  simp only at h
  rw [T.den_bind] at h
  cases h3 : (runLX P (env K) ops5.toList s3.nx (ops5.toList.take 4) 0 s3).den with
  | none => rw [h3] at h; cases h
  | some z =>
  obtain ⟨e3, s4⟩ := z
  rw [h3] at h
  simp only [Option.bind_some] at h
  cases e3 with
  | exit => exact (den_fail h).elim
  | ret => exact (den_fail h).elim
  | pan => exact (den_fail h).elim
  | normal =>
  have rt4 := (runLX_rt _ _ _ _ _ h3).trans rt3
  rw [R5_eq]
  refine wpIn_seq (wpIn_seq (wpIn_region_list ?_))
  rw [ops5_eq]
  have key : wpList P ops5 (InPost ⟨Z, ownedOf γ es, []⟩ w F3 γ3 .normal s4) (ops5.toList.take 4) a3 W3 :=
    runLX_ok (env__prod_Catalogue_List_ok K) (fun a' w' F' γ' R' hF' hx' => ⟨rfl, F', γ', R', hF', hx'⟩) _ 0 _ a3 W3 _ _ R3 (fun b hb => by have := hF3 b hb; omega) (Ext.refl _ _) h3
  refine listIn (r := none) (n := 5) (fun ⟨a, w, q⟩ => Ex.to_out _ q.1.symm) (fun c a w q => by cases q.1) (fun a4 W4 hp => ?_) _ a3 W3 flat_5 key
  obtain ⟨_, F4, γ4, R4, hF4, hx4⟩ := hp
  exact mid_in hmk hA hdec R4 hF4 (rtg (hx3.trans hx4) rt4) h
end At
noncomputable def env__prod_Catalogue_At (K : Nat) : FuncId → Option Vm.Spec := addS (env__prod_Catalogue_List K) 19 (_prod_Catalogue_At_spec K)
theorem env__prod_Catalogue_At_ok (K : Nat) : EnvOk Go.Proofs.Try.prog (env__prod_Catalogue_At K) := addS_ok (env__prod_Catalogue_List_ok K) (.inl ⟨callable Go.Proofs.Try.func19 (by kernel_rfl) (by kernel_rfl), At.fn_ok K⟩)
end
end Go.Proofs.Ytmmaechogibodaa.F
