/- The arguments of a call read by their shapes; a law's row. Conditions: none here. -/
import Derived.Test.YtmmaechogibodaaVmX
import Derived.ReadAgain
import Derived.ChangeAt
import Derived.ProofKit
import Derived.ChangeOld
import Derived.Below
import Derived.WideShapes
import Derived.OpenShut
import Derived.ShutString
import Derived.Deep.Slices
import Derived.SizedLaws
set_option linter.unusedVariables false
set_option linter.unusedSimpArgs false
namespace Go.Proofs.Ytmmaechogibodaa.Vm
open Go Go.RowKit Go.ChangeShapes Go.WideShapes Go.ChangeAt
open Go.ChangeMaps (open_string shut_string)

def KsOk : List IntKind → List Int → Prop
  | [], [] => True
  | k :: ks, x :: xs => (Lit.int k x).wf = true ∧ KsOk ks xs
  | _, _ => False
/-- Data of a shape that lies in other data: numbers within their kinds, lists and texts of a length that there can be. -/
inductive DOk : Sh → D → Prop
  | int (k : IntKind) (x : Int) (h : (Lit.int k x).wf = true) : DOk (.int k) (.i x)
  | bool (x : Bool) : DOk .bool (.b x)
  | str (x : ByteArray) (h : x.size ≤ maxLen) : DOk .str (.s x)
  | sl (l : List Sh) (xs : List (List D)) (hn : xs.length ≤ maxLen) (hr : ∀ r ∈ xs, r.length = l.length) (h : ∀ (i j : Nat) (r : List D) (sh : Sh), xs[i]? = some r → l[j]? = some sh → DOk sh (nth d0 r j)) : DOk (.sl l) (.l xs)
def kB (k : IntKind) : Nat := k.bits / 8
def ksB : List IntKind → Nat
  | [] => 0
  | k :: ks => kB k + ksB ks
def Sh.B : Sh → Nat
  | .int k => kB k
  | .bool => 1
  | .str => 16
  | .sl _ => 24
def shsB : List Sh → Nat
  | [] => 0
  | h :: l => h.B + shsB l
/-- Data of a size that there can be. -/
inductive DFit (B : Nat) : Sh → D → Prop
  | int (k : IntKind) (x : Int) : DFit B (.int k) (.i x)
  | bool (x : Bool) : DFit B .bool (.b x)
  | str (x : ByteArray) (h : x.size ≤ B) : DFit B .str (.s x)
  | sl (l : List Sh) (xs : List (List D)) (hn : xs.length * shsB l ≤ B) (h : ∀ (i j : Nat) (r : List D) (sh : Sh), xs[i]? = some r → l[j]? = some sh → DFit B sh (nth d0 r j)) : DFit B (.sl l) (.l xs)
def UFit (B : Nat) : CP → U → Prop
  | .str, .s x => x.size ≤ B
  | .row k _, .r xs => xs.length * kB k ≤ B
  | .recs ks _, .rr xs => xs.length * ksB ks ≤ B
  | .ro l, .d xs => DFit B (.sl l) (.l xs)
  | _, _ => True
def UsFit (B : Nat) : List CP → List U → Prop
  | p :: ps, u :: us => UFit B p u ∧ UsFit B ps us
  | _, _ => True
/-- Data of a shape: numbers within their kinds, lists and texts of a length that there can be. -/
def UsOk : List CP → List U → Prop
  | [], [] => True
  | .int k :: ps, .i x :: us => (Lit.int k x).wf = true ∧ UsOk ps us
  | .bool :: ps, .b _ :: us => UsOk ps us
  | .str :: ps, .s x :: us => x.size ≤ maxLen ∧ UsOk ps us
  | .row k _ :: ps, .r xs :: us => (xs.length ≤ maxLen ∧ ∀ x ∈ xs, (Lit.int k x).wf = true) ∧ UsOk ps us
  | .recs ks _ :: ps, .rr xs :: us => (xs.length ≤ maxLen ∧ ∀ x ∈ xs, KsOk ks x) ∧ UsOk ps us
  | .ro l :: ps, .d xs :: us => DOk (.sl l) (.l xs) ∧ UsOk ps us
  | _, _ => False
theorem usOk_app : ∀ {ps ps' : List CP} {us us' : List U}, UsOk ps us → UsOk ps' us' → UsOk (ps ++ ps') (us ++ us')
  | [], _, [], _, _, h => h
  | .int k :: ps, _, .i x :: us, _, h, h' => ⟨h.1, usOk_app h.2 h'⟩
  | .bool :: ps, _, .b _ :: us, _, h, h' => usOk_app (ps := ps) (us := us) h h'
  | .str :: ps, _, .s x :: us, _, h, h' => ⟨h.1, usOk_app h.2 h'⟩
  | .row k _ :: ps, _, .r xs :: us, _, h, h' => ⟨h.1, usOk_app h.2 h'⟩
  | .recs ks _ :: ps, _, .rr xs :: us, _, h, h' => ⟨h.1, usOk_app h.2 h'⟩
  | .ro l :: ps, _, .d xs :: us, _, h, h' => ⟨h.1, usOk_app h.2 h'⟩
theorem usOk_nil {us : List U} (h : UsOk [] us) : us = [] := by cases us with | nil => rfl | cons u us => exact h.elim
theorem usOk_int {k : IntKind} {ps : List CP} {us : List U} (h : UsOk (.int k :: ps) us) : ∃ x r, us = .i x :: r ∧ (Lit.int k x).wf = true ∧ UsOk ps r := by
  match us, h with
  | .i x :: r, h => exact ⟨x, r, rfl, h.1, h.2⟩
theorem usOk_bool {ps : List CP} {us : List U} (h : UsOk (.bool :: ps) us) : ∃ x r, us = .b x :: r ∧ UsOk ps r := by
  match us, h with
  | .b x :: r, h => exact ⟨x, r, rfl, h⟩
theorem usOk_str {ps : List CP} {us : List U} (h : UsOk (.str :: ps) us) : ∃ x r, us = .s x :: r ∧ x.size ≤ maxLen ∧ UsOk ps r := by
  match us, h with
  | .s x :: r, h => exact ⟨x, r, rfl, h.1, h.2⟩
theorem usOk_row {k : IntKind} {o : Bool} {ps : List CP} {us : List U} (h : UsOk (.row k o :: ps) us) : ∃ x r, us = .r x :: r ∧ (x.length ≤ maxLen ∧ ∀ y ∈ x, (Lit.int k y).wf = true) ∧ UsOk ps r := by
  match us, h with
  | .r x :: r, h => exact ⟨x, r, rfl, h.1, h.2⟩
theorem usOk_recs {k : List IntKind} {o : Bool} {ps : List CP} {us : List U} (h : UsOk (.recs k o :: ps) us) : ∃ x r, us = .rr x :: r ∧ (x.length ≤ maxLen ∧ ∀ y ∈ x, KsOk k y) ∧ UsOk ps r := by
  match us, h with
  | .rr x :: r, h => exact ⟨x, r, rfl, h.1, h.2⟩
theorem usOk_ro {l : List Sh} {ps : List CP} {us : List U} (h : UsOk (.ro l :: ps) us) : ∃ x r, us = .d x :: r ∧ DOk (.sl l) (.l x) ∧ UsOk ps r := by
  match us, h with
  | .d x :: r, h => exact ⟨x, r, rfl, h.1, h.2⟩
theorem usOk_len : ∀ {ps : List CP} {us : List U}, UsOk ps us → ps.length = us.length
  | [], us, h => by rw [usOk_nil h]; rfl
  | p :: ps, us, h => by
    cases us with
    | nil => cases p <;> exact h.elim
    | cons u us => cases p <;> cases u <;> first | exact h.elim | (simp only [List.length_cons]; exact congrArg (· + 1) (usOk_len (ps := ps) (us := us) (by first | exact h.2 | exact h)))
theorem usFit_app {B : Nat} : ∀ {ps ps' : List CP} {us us' : List U}, ps.length = us.length → UsFit B ps us → UsFit B ps' us' → UsFit B (ps ++ ps') (us ++ us')
  | [], _, [], _, _, _, h => h
  | p :: ps, _, u :: us, _, e, h, h' => ⟨h.1, usFit_app (by simpa using e) h.2 h'⟩
theorem mkCs_app : ∀ (ps1 : List CP) {ps2 : List CP} {q : Nat} {us : List U} {cs1 cs2 : List CV} {es1 es2 : List Ent} {r1 r : List U}, mkCs q ps1 us = some (cs1, es1, r1) → mkCs (q + es1.length) ps2 r1 = some (cs2, es2, r) →
    mkCs q (ps1 ++ ps2) us = some (cs1 ++ cs2, es1 ++ es2, r)
  | [], ps2, q, us, cs1, cs2, es1, es2, r1, r, h1, h2 => by
    simp only [mkCs, Option.some.injEq, Prod.mk.injEq] at h1
    obtain ⟨rfl, rfl, rfl⟩ := h1
    simpa using h2
  | p :: ps1, ps2, q, us, cs1, cs2, es1, es2, r1, r, h1, h2 => by
    cases p <;> (cases us with
      | nil => simp [mkCs] at h1
      | cons u us =>
        cases u <;> simp only [mkCs] at h1 <;> first
          | (cases h1; done)
          | (split at h1
             · rename_i c0 e0 r0 h0
               simp only [Option.some.injEq, Prod.mk.injEq] at h1
               obtain ⟨rfl, rfl, rfl⟩ := h1
               simp only [List.cons_append, mkCs]
               first
                 | rw [mkCs_app ps1 h0 h2]
                 | (rw [mkCs_app ps1 h0 (by rw [← h2]; congr 1; simp only [List.length_cons]; omega)])
             · cases h1))
/-- Cells read by their shapes. -/
structure Rd (w : World) (ps : List CP) (Vs : List Value) (us : List U) (gs : List (Option (Nat × Nat))) (W : List Nat) : Prop where
  ok : UsOk ps us
  fit : ∀ B, (∀ n ∈ W, n ≤ B) → UsFit B ps us
  make : ∀ (q : Nat) (r : List U), ∃ cs es, mkCs q ps (us ++ r) = some (cs, es, r) ∧ es.length = gs.length ∧ (∀ e ∈ es, e.own = false ∧ e.blk.isRows = true) ∧
    ∀ (F : NS) (γ : GM) (m : MM), (∀ g, g < w.heap.size → F.z g) → (∀ (i : Nat) (e : Ent), es[i]? = some e → F (q + i) ∧ m (q + i) = some e ∧ γ (q + i) = gs.getD i none) → All2 (RelC F γ m w) cs Vs ∧ ∀ (i : Nat) (e : Ent), es[i]? = some e → RelB F γ m w (q + i) e.blk
  bnd : ∀ (i g base : Nat), gs[i]? = some (some (g, base)) → g < w.heap.size
section
variable {w : World}
theorem Rd.nil : Rd w [] [] [] [] [] := ⟨trivial, fun _ _ => trivial, fun q r => ⟨[], [], rfl, rfl, fun e he => by simp at he, fun F γ m _ _ => ⟨trivial, fun i e he => by simp at he⟩⟩, fun i g b h => by simp at h⟩
theorem Rd.one {p : CP} {V : Value} {u : U} {W : List Nat} (hok : UsOk [p] [u]) (hf : ∀ B, (∀ n ∈ W, n ≤ B) → UFit B p u) (h : ∀ (q : Nat) (r : List U), mkCs q [p] (u :: r) = some ([.val V], [], r)) : Rd w [p] [V] [u] [] W :=
  ⟨hok, fun B hB => ⟨hf B hB, trivial⟩, fun q r => ⟨_, [], h q r, rfl, fun e he => by simp at he, fun F γ m _ _ => ⟨⟨rfl, trivial⟩, fun i e he => by simp at he⟩⟩, fun i g b h => by simp at h⟩
theorem All2.append {α β : Type} {R : α → β → Prop} : ∀ {l : List α} {m : List β} {l' : List α} {m' : List β}, All2 R l m → All2 R l' m' → All2 R (l ++ l') (m ++ m')
  | [], [], _, _, _, h => h
  | _ :: _, _ :: _, _, _, h, h' => ⟨h.1, h.2.append h'⟩
theorem Rd.app {ps ps' : List CP} {Vs Vs' : List Value} {us us' : List U} {gs gs' : List (Option (Nat × Nat))} {W W' : List Nat} (h : Rd w ps Vs us gs W) (h' : Rd w ps' Vs' us' gs' W') : Rd w (ps ++ ps') (Vs ++ Vs') (us ++ us') (gs ++ gs') (W ++ W') := by
  refine ⟨usOk_app h.ok h'.ok, fun B hB => usFit_app (usOk_len h.ok) (h.fit B fun n hn => hB n (List.mem_append_left _ hn)) (h'.fit B fun n hn => hB n (List.mem_append_right _ hn)), fun q r => ?_, fun i g b hg => ?_⟩
  · obtain ⟨cs, es, k1, k2, k3, k4⟩ := h.make q (us' ++ r)
    obtain ⟨cs', es', j1, j2, j3, j4⟩ := h'.make (q + es.length) r
    refine ⟨cs ++ cs', es ++ es', by rw [List.append_assoc]; exact mkCs_app ps k1 j1, by simp [k2, j2], fun e he => ?_, fun F γ m hz hc => ?_⟩
    · rcases List.mem_append.1 he with he | he
      · exact k3 e he
      · exact j3 e he
    · obtain ⟨a1, a2⟩ := k4 F γ m hz fun i e he => by
        have hi := (List.getElem?_eq_some_iff.1 he).1
        obtain ⟨x, y, z⟩ := hc i e (by rw [List.getElem?_append_left hi]; exact he)
        refine ⟨x, y, ?_⟩
        rw [z, List.getD_eq_getElem?_getD, List.getD_eq_getElem?_getD, List.getElem?_append_left (by omega)]
      obtain ⟨b1, b2⟩ := j4 F γ m hz fun i e he => by
        obtain ⟨x, y, z⟩ := hc (es.length + i) e (by rw [List.getElem?_append_right (by omega), Nat.add_sub_cancel_left]; exact he)
        rw [Nat.add_assoc]
        refine ⟨x, y, ?_⟩
        rw [z, List.getD_eq_getElem?_getD, List.getD_eq_getElem?_getD, k2, List.getElem?_append_right (by omega), Nat.add_sub_cancel_left]
      refine ⟨a1.append b1, fun i e he => ?_⟩
      by_cases hi : i < es.length
      · rw [List.getElem?_append_left hi] at he; exact a2 i e he
      · rw [List.getElem?_append_right (by omega)] at he
        have := b2 _ e he
        rwa [show q + es.length + (i - es.length) = q + i by omega] at this
  · by_cases hi : i < gs.length
    · rw [List.getElem?_append_left hi] at hg; exact h.bnd i g b hg
    · rw [List.getElem?_append_right (by omega)] at hg; exact h'.bnd _ g b hg
end
theorem valsI_cons (x : Int) (r : List Int) : ∀ (ks : List IntKind) (j : Nat), valsI ks (x :: r) (j + 1) = valsI ks r j
  | [], _ => rfl
  | k :: ks, j => by simp only [valsI, nth]; rw [valsI_cons x r ks (j + 1)]
theorem usOk_ints : ∀ (ks : List IntKind) (us : List U), UsOk (ks.map .int) us → ∃ r : List Int, us = r.map .i ∧ KsOk ks r
  | [], us, h => ⟨[], by rw [usOk_nil h]; rfl, trivial⟩
  | k :: ks, us, h => by
    obtain ⟨x, r, rfl, hw, h'⟩ := usOk_int h
    obtain ⟨xs, rfl, hx⟩ := usOk_ints ks r h'
    exact ⟨x :: xs, rfl, hw, hx⟩
theorem mkCs_ints : ∀ (ks : List IntKind) (r : List Int) (q : Nat), KsOk ks r → mkCs q (ks.map .int) (r.map .i) = some ((valsI ks r 0).map .val, [], [])
  | [], [], _, _ => rfl
  | k :: ks, x :: r, q, h => by
    simp only [List.map_cons, mkCs, mkCs_ints ks r q h.2, valsI, nth]
    rw [valsI_cons]
theorem all2_val_eq {F : NS} {γ : GM} {m : MM} {w : World} : ∀ {vs Vs : List Value}, All2 (RelC F γ m w) (vs.map .val) Vs → Vs = vs
  | [], [], _ => rfl
  | v :: vs, V :: Vs, h => by
    obtain rfl : V = v := h.1
    rw [all2_val_eq h.2]
  | [], _ :: _, h => h.elim
  | _ :: _, [], h => h.elim
theorem rd_ints {w : World} {ks : List IntKind} {Vs : List Value} {us : List U} {gs : List (Option (Nat × Nat))} {W : List Nat} (h : Rd w (ks.map .int) Vs us gs W) : ∃ r, Vs = valsI ks r 0 ∧ KsOk ks r := by
  obtain ⟨r, rfl, hk⟩ := usOk_ints ks us h.ok
  obtain ⟨cs, es, k1, k2, k3, k4⟩ := h.make 0 []
  rw [List.append_nil, mkCs_ints ks r 0 hk] at k1
  obtain ⟨rfl, rfl, _⟩ : (valsI ks r 0).map CV.val = cs ∧ ([] : List Ent) = es ∧ True := by
    have := Option.some.inj k1
    simp only [Prod.mk.injEq] at this
    exact ⟨this.1, this.2.1, trivial⟩
  exact ⟨r, all2_val_eq (k4 ⟨fun _ => False, fun _ => True⟩ (fun _ => none) (fun _ => none) (fun _ _ => trivial) fun i e he => by simp at he).1, hk⟩
theorem Rd.slice {w : World} {p : CP} {u : U} {blk : Blk} {V : Value} {W : List Nat} (hrows : blk.isRows = true) (hok : UsOk [p] [u]) (hf : ∀ B, (∀ n ∈ W, n ≤ B) → UFit B p u) (hmk : ∀ (q : Nat) (r : List U), mkCs q [p] (u :: r) = some ([.slf q], [⟨false, blk⟩], r)) (g : Option (Nat × Nat)) (hsl : ∃ a l c, V = .slice a l c)
    (hs : ∀ (γ : GM) (q : Nat), γ q = g → slcOk γ w q 0 blk.len blk.n V) (hB : ∀ (F : NS) (γ : GM) (m : MM) (q : Nat), γ q = g → RelB F γ m w q blk) (hb : ∀ x y, g = some (x, y) → x < w.heap.size) : Rd w [p] [V] [u] [g] W := by
  refine ⟨hok, fun B hB => ⟨hf B hB, trivial⟩, fun q r => ⟨_, _, hmk q r, rfl, fun e he => by simp at he; subst he; exact ⟨rfl, hrows⟩, fun F γ m _ hc => ?_⟩, fun i x y hg => ?_⟩
  · obtain ⟨c1, c2, c3⟩ := hc 0 ⟨false, blk⟩ rfl
    rw [Nat.add_zero] at c1 c2 c3
    have c3 : γ q = g := c3
    refine ⟨⟨⟨c1, hsl, fun e he => ?_⟩, trivial⟩, fun i e he => ?_⟩
    · rw [c2] at he
      obtain rfl := Option.some.inj he
      exact hs γ q c3
    · cases i with
      | zero => simp only [List.getElem?_cons_zero, Option.some.injEq] at he; subst he; exact hB F γ m q c3
      | succ i => simp at he
  · cases i with
    | zero => simp only [List.getElem?_cons_zero, Option.some.injEq] at hg; exact hb x y hg
    | succ i => simp at hg
def intKs : List CP → Option (List IntKind)
  | [] => some []
  | .int k :: ps => match intKs ps with | some ks => some (k :: ks) | none => none
  | _ :: _ => none
theorem intKs_spec : ∀ {ps : List CP} {ks : List IntKind}, intKs ps = some ks → ps = ks.map .int
  | [], ks, h => by simp only [intKs, Option.some.injEq] at h; subst h; rfl
  | p :: ps, ks, h => by
    cases p <;> simp only [intKs] at h <;> first | (cases h; done) | skip
    split at h
    · rename_i ks' h'
      obtain rfl := Option.some.inj h
      rw [intKs_spec h']; rfl
    · cases h
/-- The shape of a type's cells, as data. -/
def flatDs (rec : TypeId → Option (List Sh)) : List Field → Option (List Sh)
  | [] => some []
  | f :: fs => match rec f.type, flatDs rec fs with | some a, some b => some (a ++ b) | _, _ => none
def flatD (P : Program) : Nat → TypeId → Option (List Sh)
  | 0, _ => none
  | n + 1, t => match P.underlying t with
    | some .bool => some [.bool]
    | some (.int k) => some [.int k]
    | some .string => some [.str]
    | some (.struct fs) => flatDs (flatD P n) fs.toList
    | some (.slice e) => match flatD P n e with
      | some (h :: l) => if shsB (h :: l) ≤ P.bytesOf e then some [.sl (h :: l)] else none
      | _ => none
    | _ => none
/-- The shape of a type's cells. -/
def flatFs (rec : TypeId → Option (List CP)) : List Field → Option (List CP)
  | [] => some []
  | f :: fs => match rec f.type, flatFs rec fs with | some a, some b => some (a ++ b) | _, _ => none
def flat (P : Program) : Nat → TypeId → Option (List CP)
  | 0, _ => none
  | n + 1, t => match P.underlying t with
    | some .bool => some [.bool]
    | some (.int k) => some [.int k]
    | some .string => some [.str]
    | some (.struct fs) => flatFs (flat P n) fs.toList
    | some (.slice e) => match flat P n e with
      | some ps => (match intKs ps, P.underlying e with
        | some [k], some (.int _) => if kB k ≤ P.bytesOf e then some [.row k false] else none
        | some (k :: ks), some (.struct _) => if ksB (k :: ks) ≤ P.bytesOf e then some [.recs (k :: ks) false] else none
        | _, _ => match flatD P n e with
          | some (h :: l) => if shsB (h :: l) ≤ P.bytesOf e then some [.ro (h :: l)] else none
          | _ => none)
      | none => none
    | _ => none
/-- Cells read as data. -/
def DRs (w : World) : List Sh → List Value → List D → Prop
  | [], [], [] => True
  | h :: l, V :: cs, d :: ds => Deep (· < w.heap.size) w h d V ∧ DOk h d ∧ DRs w l cs ds
  | _, _, _ => False
def DFs (B : Nat) : List Sh → List D → Prop
  | h :: l, d :: ds => DFit B h d ∧ DFs B l ds
  | _, _ => True
theorem DRs.app {w : World} : ∀ {l l' : List Sh} {cs cs' : List Value} {ds ds' : List D}, DRs w l cs ds → DRs w l' cs' ds' → DRs w (l ++ l') (cs ++ cs') (ds ++ ds')
  | [], _, [], _, [], _, _, h => h
  | _ :: _, _, _ :: _, _, _ :: _, _, h, h' => ⟨h.1, h.2.1, h.2.2.app h'⟩
theorem DRs.len {w : World} : ∀ {l : List Sh} {cs : List Value} {ds : List D}, DRs w l cs ds → cs.length = l.length ∧ ds.length = l.length
  | [], [], [], _ => ⟨rfl, rfl⟩
  | _ :: _, _ :: _, _ :: _, h => ⟨congrArg (· + 1) h.2.2.len.1, congrArg (· + 1) h.2.2.len.2⟩
theorem DFs.app {B : Nat} : ∀ {l l' : List Sh} {ds ds' : List D}, ds.length = l.length → DFs B l ds → DFs B l' ds' → DFs B (l ++ l') (ds ++ ds')
  | [], _, [], _, _, _, h => h
  | _ :: _, _, _ :: _, _, e, h, h' => ⟨h.1, h.2.app (by simpa using e) h'⟩
theorem DRs.at {w : World} : ∀ {l : List Sh} {cs : List Value} {ds : List D}, DRs w l cs ds → ∀ (j : Nat) (h : Sh), l[j]? = some h → ∃ V, cs[j]? = some V ∧ Deep (· < w.heap.size) w h (nth d0 ds j) V ∧ DOk h (nth d0 ds j)
  | h0 :: l, V :: cs, d :: ds, hh, 0, h, e => by
    obtain rfl := Option.some.inj e
    exact ⟨V, rfl, hh.1, hh.2.1⟩
  | h0 :: l, V :: cs, d :: ds, hh, j + 1, h, e => hh.2.2.at j h e
theorem DFs.at {B : Nat} : ∀ {l : List Sh} {ds : List D}, ds.length = l.length → DFs B l ds → ∀ (j : Nat) (h : Sh), l[j]? = some h → DFit B h (nth d0 ds j)
  | h0 :: l, d :: ds, _, hh, 0, h, e => by
    obtain rfl := Option.some.inj e
    exact hh.1
  | h0 :: l, d :: ds, el, hh, j + 1, h, e => hh.2.at (by simpa using el) j h e
section
variable {H : Type} {enc : TypeId × Value → H} {P : Program} {w : World} {base : Nat} {spare : Nat → Bool} {held : Bool}
theorem weightsAll_mem {e : TypeId} : ∀ {l : List (DataW H)} {i : Nat} {d : DataW H} {n : Nat}, l[i]? = some d → n ∈ d.weights P e → n ∈ DataW.weightsAll P e l
  | d0 :: l, 0, d, n, h, hn => by
    obtain rfl := Option.some.inj h
    simp only [DataW.weightsAll]
    exact List.mem_append_left _ hn
  | d0 :: l, i + 1, d, n, h, hn => by
    simp only [DataW.weightsAll]
    exact List.mem_append_right _ (weightsAll_mem h hn)
theorem fs_read {rec : TypeId → Option (List CP)} (hrec : ∀ (t : TypeId) ps, rec t = some ps → ∀ fuel cs x, DataW.trod enc P w base spare held fuel t cs = some x → ∃ us gs, Rd w ps cs us gs (x.1.weights P t)) :
    ∀ (fs : List Field) (off : Nat) (cs : List Value) (ps : List CP) (xs : List (DataW H × List MemPlace)), xs.length = fs.length → flatFs rec fs = some ps → (∀ (j : Nat) f, fs[j]? = some f → f.offset = off + ((fs.take j).map fun f => P.cellsOf f.type).sum) →
    cs.length = off + (fs.map fun f => P.cellsOf f.type).sum → (∀ (j : Nat) f, fs[j]? = some f → ∃ fuel x, xs[j]? = some x ∧ DataW.trod enc P w base spare held fuel f.type ((cs.drop f.offset).take (P.cellsOf f.type)) = some x) → ∃ us gs, Rd w ps (cs.drop off) us gs (DataW.weightsEach P (fs.map (·.type)) (xs.map (·.1)))
  | [], off, cs, ps, xs, hxl, h, _, hl, _ => by
    obtain rfl : xs = [] := List.eq_nil_of_length_eq_zero hxl
    simp only [flatFs, Option.some.injEq] at h
    subst h
    rw [List.drop_of_length_le (by simp at hl; omega)]
    exact ⟨[], [], Rd.nil⟩
  | f :: fs, off, cs, ps, [], hxl, h, ho, hl, hr => by cases hxl
  | f :: fs, off, cs, ps, x0 :: xs, hxl, h, ho, hl, hr => by
    simp only [flatFs] at h
    split at h
    · rename_i a b ha hb
      obtain rfl := Option.some.inj h
      have ho0 := ho 0 f rfl
      simp only [List.take_zero, List.map_nil, List.sum_nil, Nat.add_zero] at ho0
      obtain ⟨fuel, x, hx0, hx⟩ := hr 0 f rfl
      obtain rfl : x0 = x := by simpa using hx0
      rw [ho0] at hx
      obtain ⟨us, gs, r1⟩ := hrec _ _ ha _ _ _ hx
      obtain ⟨us', gs', r2⟩ := fs_read hrec fs (off + P.cellsOf f.type) cs b xs (by simpa using hxl) hb (fun j f' hf => by
        have := ho (j + 1) f' (by simpa using hf)
        rw [this]; simp only [List.take_succ_cons, List.map_cons, List.sum_cons]; omega) (by rw [hl]; simp only [List.map_cons, List.sum_cons]; omega) (fun j f' hf => by simpa using hr (j + 1) f' (by simpa using hf))
      refine ⟨us ++ us', gs ++ gs', ?_⟩
      have e : cs.drop off = (cs.drop off).take (P.cellsOf f.type) ++ cs.drop (off + P.cellsOf f.type) := by
        rw [← List.drop_drop, List.take_append_drop]
      rw [e]
      exact r1.app r2
    · cases h
/-- A slice of numbers, or of rows of them. -/
theorem slice_read (hsp : ∀ b, spare b = true) {t e : TypeId} {ks : List IntKind} (hks : 0 < ks.length) (ht : P.underlying t = some (.slice e)) (hel : ∀ fuel cs x, DataW.trod enc P w base spare held fuel e cs = some x → ∃ r, cs = valsI ks r 0 ∧ KsOk ks r) {fuel : Nat} {cs : List Value} {x : DataW H × List MemPlace} (h : DataW.trod enc P w base spare held fuel t cs = some x) :
    ∃ (V : Value) (xs : List (List Int)) (g : Option (Nat × Nat)), cs = [V] ∧ (∃ a l c, V = .slice a l c) ∧ xs.length ≤ maxLen ∧ (∀ r ∈ xs, KsOk ks r) ∧
      (∀ (γ : GM) (q : Nat), γ q = g → slcOk γ w q 0 xs.length ks.length V) ∧
      (∀ (i j : Nat) (v : Value), i < xs.length → (valsI ks (nth [] xs i) 0)[j]? = some v → ∃ (g0 base : Nat) (cs : Array Value) (t : TF), g = some (g0, base) ∧ w.heap[g0]? = some (.cells cs t.1 t.2) ∧ cs[base + (i * ks.length + j)]? = some v) ∧
      (∀ x y, g = some (x, y) → x < w.heap.size) ∧ ∀ B, (∀ n ∈ x.1.weights P t, n ≤ B) → xs.length * P.bytesOf e ≤ B := by
  rcases Go.Deep.open_slice ht h with ⟨rfl, _⟩ | ⟨a, l, cap, m, n, D, Pl, rfl, hb, hl, hcap, hm, hxx, hx⟩
  · exact ⟨_, [], none, rfl, ⟨_, _, _, rfl⟩, by simp, fun r hr => by simp at hr, fun γ q _ => .inl ⟨rfl, _, rfl⟩, fun i j v hi => by simp at hi, fun x y h => (by cases h), fun B _ => by simp⟩
  · rw [hsp, if_pos rfl] at hm
    subst hm
    by_cases hc0 : m = 0
    · subst hc0
      obtain rfl : l = 0 := by omega
      exact ⟨_, [], none, rfl, ⟨_, _, _, rfl⟩, by simp, fun r hr => by simp at hr, fun γ q _ => .inl ⟨rfl, _, rfl⟩, fun i j v hi => by simp at hi, fun x y h => (by cases h), fun B _ => by simp⟩
    · -- the elements
      have el : ∀ i, i < m → ∃ r, KsOk ks r ∧ P.cellsOf e = ks.length ∧ ∀ j, j < ks.length → w.cell? ((a.add (i * P.cellsOf e)).add j) = (valsI ks r 0)[j]? := fun i hi => by
        obtain ⟨cs', h1, h2⟩ := hx i hi
        obtain ⟨r, rfl, hk⟩ := hel _ _ _ h2
        obtain ⟨_, h3, h4⟩ := World.cells?_some h1
        rw [valsI_len] at h3
        exact ⟨r, hk, h3.symm, fun j hj => h4 j (by omega)⟩
      obtain ⟨r0, _, hce, hc00⟩ := el 0 (by omega)
      obtain ⟨v0, hv0⟩ : ∃ v, (valsI ks r0 0)[0]? = some v := ⟨_, List.getElem?_eq_getElem (by rw [valsI_len]; omega)⟩
      have h00 := hc00 0 hks
      rw [hv0] at h00
      obtain ⟨g, o, sp⟩ := a
      have hspot : sp = none := by
        cases sp with
        | none => rfl
        | some y =>
          simp only [World.cell?, Addr.add] at h00
          split at h00
          · split at h00 <;> simp_all
          · cases h00
      subst hspot
      simp only [addr_add] at el h00
      obtain ⟨carr, tt, ff, hheap⟩ : ∃ carr tt ff, w.heap[g]? = some (.cells carr tt ff) := by
        simp only [World.cell?] at h00
        split at h00
        · rename_i c _ _ hh; exact ⟨c, _, _, hh⟩
        · cases h00
      have cell : ∀ k, w.cell? ⟨g, k, none⟩ = carr[k]? := fun k => by simp [World.cell?, hheap]
      obtain ⟨xs, hxl, hxs⟩ := list_choice (R := fun i _ r => KsOk ks r ∧ ∀ j, j < ks.length → carr[o + (i * ks.length + j)]? = (valsI ks r 0)[j]?) (List.range m) (fun i c hi => by
        have hlt : i < m := by have := (List.getElem?_eq_some_iff.1 hi).1; simpa using this
        obtain ⟨r, hk, h3, h4⟩ := el i hlt
        refine ⟨r, hk, fun j hj => ?_⟩
        have := h4 j hj
        rw [cell, h3] at this
        rw [← this]; congr 1; omega)
      rw [List.length_range] at hxl
      have hget : ∀ i r, xs[i]? = some r → KsOk ks r ∧ ∀ j, j < ks.length → carr[o + (i * ks.length + j)]? = (valsI ks r 0)[j]? := fun i r hr => by
        have hlt : i < m := by have := (List.getElem?_eq_some_iff.1 hr).1; omega
        exact hxs i i r (by rw [List.getElem?_range hlt]) hr
      have htl : (xs.take l).length = l := by rw [List.length_take]; omega
      refine ⟨_, xs.take l, some (g, o), rfl, ⟨_, _, _, rfl⟩, by omega, fun r hr => ?_, fun γ q hq => ?_, fun i j v hi hv => ?_, fun x y hxy => ?_, fun B hB => ?_⟩
      · obtain ⟨i, hi, hri⟩ := List.mem_iff_getElem.1 (List.mem_of_mem_take hr)
        exact (hget i r (by rw [List.getElem?_eq_getElem hi, hri])).1
      · refine .inr ⟨g, o, m, hq, by rw [htl, Nat.zero_mul, Nat.add_zero], by omega, carr, (tt, ff), hheap, ?_⟩
        obtain ⟨r, hr⟩ : ∃ r, xs[m - 1]? = some r := ⟨_, List.getElem?_eq_getElem (by omega)⟩
        have := (hget (m - 1) r hr).2 (ks.length - 1) (by omega)
        rw [List.getElem?_eq_getElem (l := valsI ks r 0) (by rw [valsI_len]; omega)] at this
        have := (Array.getElem?_eq_some_iff.1 this).1
        have e1 : (0 + m) * ks.length = (m - 1) * ks.length + ks.length := by
          rw [Nat.zero_add, ← Nat.succ_mul]; congr 1; omega
        omega
      · rw [htl] at hi
        obtain ⟨r, hr⟩ : ∃ r, xs[i]? = some r := ⟨_, List.getElem?_eq_getElem (by omega)⟩
        have hn : nth [] (xs.take l) i = r := by
          rw [nth_eq, List.getD_eq_getElem?_getD, List.getElem?_take, if_pos hi, hr]; rfl
        rw [hn] at hv
        have hj : j < ks.length := by have := (List.getElem?_eq_some_iff.1 hv).1; rwa [valsI_len] at this
        exact ⟨g, o, carr, (tt, ff), rfl, hheap, by rw [(hget i r hr).2 j hj]; exact hv⟩
      · simp only [Option.some.injEq, Prod.mk.injEq] at hxy
        rw [← hxy.1]; exact (Array.getElem?_eq_some_iff.1 hheap).1
      · have hB := hB ((((List.range l).map D).length + ((List.range (m - l)).map fun j => D (l + j)).length) * P.bytesOf e) (by rw [hxx]; simp [DataW.weights, ht])
        refine Nat.le_trans (Nat.mul_le_mul_right _ ?_) hB
        rw [htl]; simp
/-- A slice whose elements are read as data. -/
theorem slice_readD (hsp : ∀ b, spare b = true) {t e : TypeId} {s0 : Sh} {sl : List Sh} (ht : P.underlying t = some (.slice e)) (hby : shsB (s0 :: sl) ≤ P.bytesOf e) (hel : ∀ fuel cs x, DataW.trod enc P w base spare held fuel e cs = some x → ∃ ds, DRs w (s0 :: sl) cs ds ∧ ∀ B, (∀ n ∈ x.1.weights P e, n ≤ B) → DFs B (s0 :: sl) ds)
    {fuel : Nat} {cs : List Value} {x : DataW H × List MemPlace} (h : DataW.trod enc P w base spare held fuel t cs = some x) :
    ∃ (V : Value) (xs : List (List D)), cs = [V] ∧ Deep (· < w.heap.size) w (.sl (s0 :: sl)) (.l xs) V ∧ DOk (.sl (s0 :: sl)) (.l xs) ∧ ∀ B, (∀ n ∈ x.1.weights P t, n ≤ B) → DFit B (.sl (s0 :: sl)) (.l xs) := by
  have none_ : ∀ a c, ∃ (V' : Value) (xs : List (List D)), [Value.slice a 0 c] = [V'] ∧ Deep (· < w.heap.size) w (.sl (s0 :: sl)) (.l xs) V' ∧ DOk (.sl (s0 :: sl)) (.l xs) ∧ ∀ B, (∀ n ∈ x.1.weights P t, n ≤ B) → DFit B (.sl (s0 :: sl)) (.l xs) :=
    fun a c => ⟨_, [], rfl, .nil _ a c, .sl _ _ (by simp) (fun r hr => by simp at hr) (fun i j r sh hi => by simp at hi), fun B _ => .sl _ _ (by simp) (fun i j r sh hi => by simp at hi)⟩
  rcases Go.Deep.open_slice ht h with ⟨rfl, _⟩ | ⟨a, l, cap, m, n, DD, Pl, rfl, hb, hl, hcap, hm, hxx, hx⟩
  · exact none_ none 0
  · rw [hsp, if_pos rfl] at hm
    subst hm
    by_cases hc0 : m = 0
    · subst hc0
      obtain rfl : l = 0 := by omega
      exact none_ _ _
    · have el : ∀ i, i < m → ∃ cs' r, DRs w (s0 :: sl) cs' r ∧ (∀ B, (∀ n ∈ (DD i).weights P e, n ≤ B) → DFs B (s0 :: sl) r) ∧ P.cellsOf e = (s0 :: sl).length ∧ ∀ j, j < (s0 :: sl).length → w.cell? ((a.add (i * P.cellsOf e)).add j) = cs'[j]? := fun i hi => by
        obtain ⟨cs', h1, h2⟩ := hx i hi
        obtain ⟨r, hk, hf⟩ := hel _ _ _ h2
        obtain ⟨_, h3, h4⟩ := World.cells?_some h1
        rw [hk.len.1] at h3
        exact ⟨cs', r, hk, hf, h3.symm, fun j hj => h4 j (by omega)⟩
      obtain ⟨c0, r0, hr0, _, hce, hc00⟩ := el 0 (by omega)
      obtain ⟨v0, hv0⟩ : ∃ v, c0[0]? = some v := ⟨_, List.getElem?_eq_getElem (by rw [hr0.len.1]; simp)⟩
      have h00 := hc00 0 (by simp)
      rw [hv0] at h00
      obtain ⟨g, o, sp⟩ := a
      have hspot : sp = none := by
        cases sp with
        | none => rfl
        | some y =>
          simp only [World.cell?, Addr.add] at h00
          split at h00
          · split at h00 <;> simp_all
          · cases h00
      subst hspot
      simp only [addr_add] at el h00
      obtain ⟨carr, tt, ff, hheap⟩ : ∃ carr tt ff, w.heap[g]? = some (.cells carr tt ff) := by
        simp only [World.cell?] at h00
        split at h00
        · rename_i c _ _ hh; exact ⟨c, _, _, hh⟩
        · cases h00
      have cell : ∀ k, w.cell? ⟨g, k, none⟩ = carr[k]? := fun k => by simp [World.cell?, hheap]
      obtain ⟨xs, hxl, hxs⟩ := list_choice (R := fun i _ r => ∃ cs', DRs w (s0 :: sl) cs' r ∧ (∀ B, (∀ n ∈ (DD i).weights P e, n ≤ B) → DFs B (s0 :: sl) r) ∧ ∀ j, j < (s0 :: sl).length → carr[o + (i * (s0 :: sl).length + j)]? = cs'[j]?) (List.range m) (fun i c hi => by
        have hlt : i < m := by have := (List.getElem?_eq_some_iff.1 hi).1; simpa using this
        obtain ⟨cs', r, hk, hf, h3, h4⟩ := el i hlt
        refine ⟨r, cs', hk, hf, fun j hj => ?_⟩
        have := h4 j hj
        rw [cell, h3] at this
        rw [← this]; congr 1; omega)
      rw [List.length_range] at hxl
      have hget : ∀ i r, xs[i]? = some r → i < m ∧ ∃ cs', DRs w (s0 :: sl) cs' r ∧ (∀ B, (∀ n ∈ (DD i).weights P e, n ≤ B) → DFs B (s0 :: sl) r) ∧ ∀ j, j < (s0 :: sl).length → carr[o + (i * (s0 :: sl).length + j)]? = cs'[j]? := fun i r hr => by
        have hlt : i < m := by have := (List.getElem?_eq_some_iff.1 hr).1; omega
        exact ⟨hlt, hxs i i r (by rw [List.getElem?_range hlt]) hr⟩
      have htl : (xs.take l).length = l := by rw [List.length_take]; omega
      have htk : ∀ i r, (xs.take l)[i]? = some r → i < l ∧ xs[i]? = some r := fun i r hr => by
        rw [List.getElem?_take] at hr
        split at hr
        · exact ⟨‹_›, hr⟩
        · cases hr
      have hglt : g < w.heap.size := (Array.getElem?_eq_some_iff.1 hheap).1
      have hsz : o + l * (s0 :: sl).length ≤ carr.size := by
        obtain ⟨r, hr⟩ : ∃ r, xs[m - 1]? = some r := ⟨_, List.getElem?_eq_getElem (by omega)⟩
        obtain ⟨_, cs', hk, _, hj⟩ := hget (m - 1) r hr
        have := hj ((s0 :: sl).length - 1) (by simp)
        rw [List.getElem?_eq_getElem (l := cs') (by rw [hk.len.1]; simp)] at this
        have := (Array.getElem?_eq_some_iff.1 this).1
        have e1 : m * (s0 :: sl).length = (m - 1) * (s0 :: sl).length + (s0 :: sl).length := by
          rw [← Nat.succ_mul]; congr 1; omega
        have e2 : l * (s0 :: sl).length ≤ m * (s0 :: sl).length := Nat.mul_le_mul_right _ hl
        have e3 : 0 < (s0 :: sl).length := by simp
        omega
      refine ⟨_, xs.take l, rfl, ?_, ?_, fun B hB => ?_⟩
      · have := Deep.sl (z := (· < w.heap.size)) (w := w) (s0 :: sl) (xs.take l) g o m carr (tt, ff) hglt hheap (by omega) (by rw [htl]; exact hsz) (fun i j r sh V hr hj hV => by
          obtain ⟨hi, hr'⟩ := htk i r hr
          obtain ⟨_, cs', hk, _, hc⟩ := hget i r hr'
          obtain ⟨V', h1, h2, _⟩ := hk.at j sh hj
          rw [hc j (List.getElem?_eq_some_iff.1 hj).1, h1] at hV
          obtain rfl := Option.some.inj hV
          exact h2)
        rwa [htl] at this
      · refine .sl _ _ (by omega) (fun r hr => ?_) fun i j r sh hr hj => ?_
        · obtain ⟨i, hi⟩ := List.mem_iff_getElem?.1 hr
          obtain ⟨_, hr'⟩ := htk i r hi
          obtain ⟨_, cs', hk, _⟩ := hget i r hr'
          exact hk.len.2
        · obtain ⟨_, hr'⟩ := htk i r hr
          obtain ⟨_, cs', hk, _⟩ := hget i r hr'
          obtain ⟨_, _, _, h3⟩ := hk.at j sh hj
          exact h3
      · rw [hxx] at hB
        have hB0 := hB ((((List.range l).map DD).length + ((List.range (m - l)).map fun j => DD (l + j)).length) * P.bytesOf e) (by simp [DataW.weights, ht])
        refine .sl _ _ (Nat.le_trans (Nat.mul_le_mul ?_ hby) hB0) fun i j r sh hr hj => ?_
        · rw [htl]; simp
        · obtain ⟨hi, hr'⟩ := htk i r hr
          obtain ⟨_, cs', hk, hf, _⟩ := hget i r hr'
          refine (hf B fun n hn => hB n ?_).at hk.len.2 j sh hj
          simp only [DataW.weights, ht]
          refine List.mem_cons_of_mem _ (List.mem_append_left _ ?_)
          exact weightsAll_mem (List.getElem?_eq_some_iff.2 ⟨by simpa using hi, by simp⟩ : ((List.range l).map DD)[i]? = some (DD i)) hn
theorem fs_readD {rec : TypeId → Option (List Sh)} (hrec : ∀ (t : TypeId) l, rec t = some l → ∀ fuel cs x, DataW.trod enc P w base spare held fuel t cs = some x → ∃ ds, DRs w l cs ds ∧ ∀ B, (∀ n ∈ x.1.weights P t, n ≤ B) → DFs B l ds) :
    ∀ (fs : List Field) (off : Nat) (cs : List Value) (l : List Sh) (xs : List (DataW H × List MemPlace)), xs.length = fs.length → flatDs rec fs = some l → (∀ (j : Nat) f, fs[j]? = some f → f.offset = off + ((fs.take j).map fun f => P.cellsOf f.type).sum) →
    cs.length = off + (fs.map fun f => P.cellsOf f.type).sum → (∀ (j : Nat) f, fs[j]? = some f → ∃ fuel x, xs[j]? = some x ∧ DataW.trod enc P w base spare held fuel f.type ((cs.drop f.offset).take (P.cellsOf f.type)) = some x) → ∃ ds, DRs w l (cs.drop off) ds ∧ ∀ B, (∀ n ∈ DataW.weightsEach P (fs.map (·.type)) (xs.map (·.1)), n ≤ B) → DFs B l ds
  | [], off, cs, l, xs, hxl, h, _, hl, _ => by
    simp only [flatDs, Option.some.injEq] at h
    subst h
    rw [List.drop_of_length_le (by simp at hl; omega)]
    exact ⟨[], trivial, fun _ _ => trivial⟩
  | f :: fs, off, cs, l, [], hxl, h, ho, hl, hr => by cases hxl
  | f :: fs, off, cs, l, x0 :: xs, hxl, h, ho, hl, hr => by
    simp only [flatDs] at h
    split at h
    · rename_i a b ha hb
      obtain rfl := Option.some.inj h
      have ho0 := ho 0 f rfl
      simp only [List.take_zero, List.map_nil, List.sum_nil, Nat.add_zero] at ho0
      obtain ⟨fuel, x, hx0, hx⟩ := hr 0 f rfl
      obtain rfl : x0 = x := by simpa using hx0
      rw [ho0] at hx
      obtain ⟨ds, r1, f1⟩ := hrec _ _ ha _ _ _ hx
      obtain ⟨ds', r2, f2⟩ := fs_readD hrec fs (off + P.cellsOf f.type) cs b xs (by simpa using hxl) hb (fun j f' hf => by
        have := ho (j + 1) f' (by simpa using hf)
        rw [this]; simp only [List.take_succ_cons, List.map_cons, List.sum_cons]; omega) (by rw [hl]; simp only [List.map_cons, List.sum_cons]; omega) (fun j f' hf => by simpa using hr (j + 1) f' (by simpa using hf))
      refine ⟨ds ++ ds', ?_, fun B hB => ?_⟩
      · have e : cs.drop off = (cs.drop off).take (P.cellsOf f.type) ++ cs.drop (off + P.cellsOf f.type) := by
          rw [← List.drop_drop, List.take_append_drop]
        rw [e]
        exact r1.app r2
      · simp only [List.map_cons, DataW.weightsEach] at hB
        exact (f1 B fun n hn => hB n (List.mem_append_left _ hn)).app r1.len.2 (f2 B fun n hn => hB n (List.mem_append_right _ hn))
    · cases h
theorem flatD_read (hsp : ∀ b, spare b = true) (K : Kids P (· < P.types.size)) : ∀ (n : Nat) (t : TypeId) (l : List Sh), t < P.types.size → flatD P n t = some l → ∀ fuel cs x, DataW.trod enc P w base spare held fuel t cs = some x → ∃ ds, DRs w l cs ds ∧ ∀ B, (∀ n ∈ x.1.weights P t, n ≤ B) → DFs B l ds
  | 0, t, l, _, h => by simp [flatD] at h
  | n + 1, t, l, ht, h => by
    intro fuel cs x hx
    simp only [flatD] at h
    split at h
    · rename_i hu
      obtain rfl := Option.some.inj h
      obtain ⟨b, rfl, _⟩ := DataW.trod_bool hu hx
      exact ⟨[.b b], ⟨.bool b, .bool b, trivial⟩, fun B _ => ⟨.bool b, trivial⟩⟩
    · rename_i k hu
      obtain rfl := Option.some.inj h
      obtain ⟨y, rfl, _, hw⟩ := DataW.trod_int hu hx
      exact ⟨[.i y], ⟨.int k y, .int k y hw, trivial⟩, fun B _ => ⟨.int k y, trivial⟩⟩
    · rename_i hu
      obtain rfl := Option.some.inj h
      obtain ⟨s, rfl, he, hw⟩ := DataW.trod_string hu hx
      refine ⟨[.s s], ⟨.str s, .str s hw, trivial⟩, fun B hB => ⟨.str s ?_, trivial⟩⟩
      rw [he] at hB
      simpa using hB s.data.toList.length (by simp [DataW.weights])
    · rename_i fs hu
      obtain ⟨xs, m, rfl, rfl, hl, hlen, hf⟩ := DataW.trod_struct hu hx
      obtain ⟨k1, k2, k3⟩ := K.struct ht hu
      have hrec : ∀ (t : TypeId) l, (if t < P.types.size then flatD P n t else none) = some l → ∀ fuel cs x, DataW.trod enc P w base spare held fuel t cs = some x → ∃ ds, DRs w l cs ds ∧ ∀ B, (∀ n ∈ x.1.weights P t, n ≤ B) → DFs B l ds := fun t l hp => by
        split at hp
        · exact flatD_read hsp K n t l ‹_› hp
        · cases hp
      have hsame : ∀ l : List Field, (∀ f ∈ l, f.type < P.types.size) → flatDs (flatD P n) l = flatDs (fun t => if t < P.types.size then flatD P n t else none) l := by
        intro l
        induction l with
        | nil => intro _; rfl
        | cons f l ih =>
          intro hk
          simp only [flatDs]
          rw [if_pos (hk f (by simp)), ih fun g hg => hk g (by simp [hg])]
      rw [hsame fs.toList k1] at h
      obtain ⟨ds, hr, hq⟩ := fs_readD hrec fs.toList 0 cs l xs (by rw [hlen]; simp) h (fun j f hj => by rw [k3 j f hj, Nat.zero_add]) (by rw [hl, k2, Nat.zero_add]) (fun j f hj => by
        have hj' : fs[j]? = some f := by simpa using hj
        have hlt : j < xs.length := by
          rw [hlen]
          exact (Array.getElem?_eq_some_iff.1 hj').1
        exact ⟨m, xs[j], List.getElem?_eq_getElem hlt, by rw [hf j f hj', List.getElem?_eq_getElem hlt]⟩)
      exact ⟨ds, by simpa using hr, fun B hB => hq B (by simpa [DataW.weights, hu] using hB)⟩
    · rename_i e hu
      split at h
      · rename_i h0 sl hps
        split at h
        · rename_i hby
          obtain rfl := Option.some.inj h
          obtain ⟨V, xs, rfl, h1, h2, h3⟩ := slice_readD hsp hu hby (flatD_read hsp K n e _ (K.slice ht hu) hps) hx
          exact ⟨[.l xs], ⟨h1, h2, trivial⟩, fun B hB => ⟨h3 B hB, trivial⟩⟩
        · cases h
      · cases h
    · cases h
theorem flat_read (hsp : ∀ b, spare b = true) (K : Kids P (· < P.types.size)) : ∀ (n : Nat) (t : TypeId) (ps : List CP), t < P.types.size → flat P n t = some ps → ∀ fuel cs x, DataW.trod enc P w base spare held fuel t cs = some x → ∃ us gs, Rd w ps cs us gs (x.1.weights P t)
  | 0, t, ps, _, h => by simp [flat] at h
  | n + 1, t, ps, ht, h => by
    intro fuel cs x hx
    simp only [flat] at h
    split at h
    · rename_i hu
      obtain rfl := Option.some.inj h
      obtain ⟨b, rfl, _⟩ := DataW.trod_bool hu hx
      exact ⟨[.b b], [], Rd.one trivial (fun _ _ => trivial) fun q r => rfl⟩
    · rename_i k hu
      obtain rfl := Option.some.inj h
      obtain ⟨y, rfl, _, hw⟩ := DataW.trod_int hu hx
      exact ⟨[.i y], [], Rd.one ⟨hw, trivial⟩ (fun _ _ => trivial) fun q r => rfl⟩
    · rename_i hu
      obtain rfl := Option.some.inj h
      obtain ⟨s, rfl, he, hw⟩ := DataW.trod_string hu hx
      exact ⟨[.s s], [], Rd.one ⟨hw, trivial⟩ (fun B hB => by
        rw [he] at hB
        show s.size ≤ B
        simpa using hB s.data.toList.length (by simp [DataW.weights])) fun q r => rfl⟩
    · rename_i fs hu
      obtain ⟨xs, m, rfl, rfl, hl, hlen, hf⟩ := DataW.trod_struct hu hx
      obtain ⟨k1, k2, k3⟩ := K.struct ht hu
      have hrec : ∀ (t : TypeId) ps, (if t < P.types.size then flat P n t else none) = some ps → ∀ fuel cs x, DataW.trod enc P w base spare held fuel t cs = some x → ∃ us gs, Rd w ps cs us gs (x.1.weights P t) := fun t ps hp => by
        split at hp
        · exact flat_read hsp K n t ps ‹_› hp
        · cases hp
      have hsame : ∀ l : List Field, (∀ f ∈ l, f.type < P.types.size) → flatFs (flat P n) l = flatFs (fun t => if t < P.types.size then flat P n t else none) l := by
        intro l
        induction l with
        | nil => intro _; rfl
        | cons f l ih =>
          intro hk
          simp only [flatFs]
          rw [if_pos (hk f (by simp)), ih fun g hg => hk g (by simp [hg])]
      rw [hsame fs.toList k1] at h
      obtain ⟨us, gs, hr⟩ := fs_read hrec fs.toList 0 cs ps xs (by rw [hlen]; simp) h (fun j f hj => by rw [k3 j f hj, Nat.zero_add]) (by rw [hl, k2, Nat.zero_add]) (fun j f hj => by
        have hj' : fs[j]? = some f := by simpa using hj
        have hlt : j < xs.length := by
          rw [hlen]
          exact (Array.getElem?_eq_some_iff.1 hj').1
        exact ⟨m, xs[j], List.getElem?_eq_getElem hlt, by rw [hf j f hj', List.getElem?_eq_getElem hlt]⟩)
      exact ⟨us, gs, by simpa [DataW.weights, hu] using hr⟩
    · rename_i e hu
      split at h
      case h_2 => cases h
      rename_i ps' hps
      have hel : ∀ ks, intKs ps' = some ks → ∀ fuel cs x, DataW.trod enc P w base spare held fuel e cs = some x → ∃ r, cs = valsI ks r 0 ∧ KsOk ks r := fun ks hks fuel cs x hx => by
        obtain ⟨us, gs, hr⟩ := flat_read hsp K n e ps' (K.slice ht hu) hps fuel cs x hx
        rw [intKs_spec hks] at hr
        exact rd_ints hr
      split at h
      · rename_i k k0 hks hue
        split at h
        case isFalse => cases h
        rename_i hby
        obtain rfl := Option.some.inj h
        obtain ⟨V, xs, g, rfl, h1, h2, h3, h4, h5, h6, h7⟩ := slice_read hsp (ks := [k]) (by simp) hu (hel _ hks) hx
        have hone : ∀ r ∈ xs, ∃ y, r = [y] ∧ (Lit.int k y).wf = true := fun r hr => by
          have := h3 r hr
          match r, this with
          | [y], h => exact ⟨y, rfl, h.1⟩
        have hnth : ∀ i, i < xs.length → nth [] xs i = [nth 0 (xs.map (nth 0 · 0)) i] := fun i hi => by
          obtain ⟨y, hy, _⟩ := hone xs[i] (List.getElem_mem hi)
          rw [nth_eq, nth_eq, List.getD_eq_getElem?_getD, List.getD_eq_getElem?_getD, List.getElem?_map, List.getElem?_eq_getElem hi]
          simp only [Option.getD_some, Option.map_some]
          rw [hy]; rfl
        have hwf : ∀ y ∈ xs.map (nth 0 · 0), (Lit.int k y).wf = true := fun y hy => by
          obtain ⟨r, hr, rfl⟩ := List.mem_map.1 hy
          obtain ⟨z, rfl, hz⟩ := hone r hr
          exact hz
        refine ⟨[.r (xs.map (nth 0 · 0))], [g], Rd.slice (blk := .row k (xs.map (nth 0 · 0))) rfl (show UsOk [.row k false] [.r (xs.map (nth 0 · 0))] from ⟨⟨by simpa using h2, hwf⟩, trivial⟩) (fun B hB => Nat.le_trans (Nat.mul_le_mul (by simp) hby) (h7 B hB)) (fun q r => rfl) g h1 (fun γ q hq => by simpa [Blk.len, Blk.n] using h4 γ q hq) (fun F γ m q hq i j c hc => ?_) h6⟩
        simp only [Blk.at] at hc
        split at hc
        · rename_i hij
          obtain ⟨rfl, hi⟩ := hij
          obtain rfl := Option.some.inj hc
          have hi' : i < xs.length := by simpa using hi
          obtain ⟨g0, b0, carr, tt, e1, e2, e3⟩ := h5 i 0 (.int k (nth 0 (xs.map (nth 0 · 0)) i)) hi' (by rw [hnth i hi']; rfl)
          exact ⟨g0, b0, carr, tt, _, hq.trans e1, e2, by simpa [Blk.n] using e3, rfl⟩
        · cases hc
      · rename_i k ks fs hks hue
        split at h
        case isFalse => cases h
        rename_i hby
        obtain rfl := Option.some.inj h
        obtain ⟨V, xs, g, rfl, h1, h2, h3, h4, h5, h6, h7⟩ := slice_read hsp (ks := k :: ks) (by simp) hu (hel _ hks) hx
        refine ⟨[.rr xs], [g], Rd.slice (blk := .recs (k :: ks) xs) rfl (show UsOk [.recs (k :: ks) false] [.rr xs] from ⟨⟨h2, h3⟩, trivial⟩) (fun B hB => Nat.le_trans (Nat.mul_le_mul_left _ hby) (h7 B hB)) (fun q r => rfl) g h1 (fun γ q hq => by simpa [Blk.len, Blk.n, len_eq] using h4 γ q hq) (fun F γ m q hq i j c hc => ?_) h6⟩
        simp only [Blk.at] at hc
        split at hc
        · rename_i hi
          rw [intsV_vals, List.getElem?_map, Option.map_eq_some_iff] at hc
          obtain ⟨v, hv, rfl⟩ := hc
          obtain ⟨g0, b0, carr, tt, e1, e2, e3⟩ := h5 i j v hi hv
          exact ⟨g0, b0, carr, tt, v, hq.trans e1, e2, by simpa [Blk.n, len_eq] using e3, rfl⟩
        · cases hc
      · split at h
        · rename_i h0 sl hps'
          split at h
          · rename_i hby
            obtain rfl := Option.some.inj h
            obtain ⟨V, xs, rfl, h1, h2, h3⟩ := slice_readD hsp hu hby (flatD_read hsp K n e _ (K.slice ht hu) hps') hx
            exact ⟨[.d xs], [], ⟨⟨h2, trivial⟩, fun B hB => ⟨h3 B hB, trivial⟩, fun q r => ⟨[.ro (h0 :: sl) xs], [], rfl, rfl, fun e he => by simp at he, fun F γ m hz _ => ⟨⟨Deep.step hz (fun _ _ => rfl) h1, trivial⟩, fun i e he => by simp at he⟩⟩, fun i g b h => by simp at h⟩⟩
          · cases h
        · cases h
    · cases h
/-- The shape of a type, for a call. -/
def shapeOf (P : Program) (t : TypeId) : Option PP :=
  match flat P 8 t with
  | some ps => (match P.underlying t with
    | some (.struct _) => some (.agg ps)
    | some (.array ..) => none
    | some _ => (match ps with | [p] => some (.one p) | _ => none)
    | none => none)
  | none => none
def shapes (P : Program) : List TypeId → Option (List PP)
  | [] => some []
  | t :: ts => match shapeOf P t, shapes P ts with | some a, some b => some (a :: b) | _, _ => none
def PP.cps : PP → List CP
  | .one c => [c]
  | .agg l => l
  | _ => []
def cpsOf : List PP → List CP
  | [] => []
  | p :: l => p.cps ++ cpsOf l
theorem cell_ok {r : Reach} {b0 : Nat} {t : TypeId} {V : Value} {d : DataW H} {p : List MemPlace} {c : CP} {n : Nat} (h : flat P n t = some [c]) (hns : ∀ fs, P.underlying t ≠ some (.struct fs)) (hval : Value.okWide P w r b0 t V) (hT : DataW.Trod enc P w base spare held t V d p) : V.cells.toList = [V] := by
  cases n with
  | zero => simp [flat] at h
  | succ n =>
    simp only [flat] at h
    split at h
    · rename_i hu; obtain ⟨b, rfl, _⟩ := open_bool hu hval hT; rfl
    · rename_i k hu; obtain ⟨b, rfl, _⟩ := open_int hu hval hT; rfl
    · rename_i hu; obtain ⟨b, rfl, _⟩ := open_string hu hval hT; rfl
    · rename_i fs hu; exact absurd hu (hns fs)
    · rename_i e hu
      obtain ⟨fuel, hf⟩ := hT
      have hc := hval
      simp only [Value.okWide, hu] at hc
      cases V <;> first | rfl | (simp [Cell.okWide, Cell.ok, hu] at hc)
    · cases h
/-- Arguments read by their shapes. -/
structure RdA (w : World) (ps : List PP) (Vs : List Value) (us : List U) (gs : List (Option (Nat × Nat))) (W : List Nat) : Prop where
  ok : UsOk (cpsOf ps) us
  fit : ∀ B, (∀ n ∈ W, n ≤ B) → UsFit B (cpsOf ps) us
  make : ∀ (q : Nat) (r : List U), ∃ cs es, mkPs q ps (us ++ r) = some (cs, es, r) ∧ es.length = gs.length ∧ (∀ e ∈ es, e.own = false ∧ e.blk.isRows = true) ∧
    ∀ (F : NS) (γ : GM) (m : MM), (∀ g, g < w.heap.size → F.z g) → (∀ (i : Nat) (e : Ent), es[i]? = some e → F (q + i) ∧ m (q + i) = some e ∧ γ (q + i) = gs.getD i none) → All2 (RelP F γ m w) cs Vs ∧ ∀ (i : Nat) (e : Ent), es[i]? = some e → RelB F γ m w (q + i) e.blk
  bnd : ∀ (i g base : Nat), gs[i]? = some (some (g, base)) → g < w.heap.size
theorem RdA.cons {p : PP} {ps : List PP} {V : Value} {Vs : List Value} {us us' : List U} {gs gs' : List (Option (Nat × Nat))} {W W' : List Nat} (h : Rd w p.cps V.cells.toList us gs W) (h' : RdA w ps Vs us' gs' W')
    (hp : match p with | .one _ => V.cells.toList = [V] | .agg _ => ∃ cs, V = .agg cs | _ => False) : RdA w (p :: ps) (V :: Vs) (us ++ us') (gs ++ gs') (W ++ W') := by
  refine ⟨usOk_app h.ok h'.ok, fun B hB => usFit_app (usOk_len h.ok) (h.fit B fun n hn => hB n (List.mem_append_left _ hn)) (h'.fit B fun n hn => hB n (List.mem_append_right _ hn)), fun q r => ?_, fun i g b hg => ?_⟩
  · obtain ⟨cs, es, k1, k2, k3, k4⟩ := h.make q (us' ++ r)
    obtain ⟨cs', es', j1, j2, j3, j4⟩ := h'.make (q + es.length) r
    have key : ∃ c, mkP q p (us ++ (us' ++ r)) = some (c, es, us' ++ r) ∧ ∀ F γ m, All2 (RelC F γ m w) cs V.cells.toList → RelP F γ m w c V := by
      cases p with
      | one c =>
        simp only at hp
        rw [hp] at k4
        simp only [PP.cps] at k1
        have hlen : cs.length = 1 := by
          have := mkCs_len _ _ _ _ _ _ k1
          simpa using this
        match cs, hlen with
        | [c0], _ =>
          refine ⟨.one c0, by simp only [mkP, k1], fun F γ m hh => ?_⟩
          rw [hp] at hh
          exact hh.1
      | agg l =>
        obtain ⟨vs, rfl⟩ := hp
        simp only [PP.cps] at k1
        exact ⟨.agg cs, by simp only [mkP, k1], fun F γ m hh => ⟨vs, rfl, hh⟩⟩
      | ptr l => exact hp.elim
      | mptr l => exact hp.elim
    obtain ⟨c, hc1, hc2⟩ := key
    refine ⟨c :: cs', es ++ es', ?_, by simp [k2, j2], fun e he => ?_, fun F γ m hz hc => ?_⟩
    · rw [List.append_assoc]
      simp only [mkPs, hc1, len_eq, j1]
    · rcases List.mem_append.1 he with he | he
      · exact k3 e he
      · exact j3 e he
    · obtain ⟨a1, a2⟩ := k4 F γ m hz fun i e he => by
        have hi := (List.getElem?_eq_some_iff.1 he).1
        obtain ⟨x, y, z⟩ := hc i e (by rw [List.getElem?_append_left hi]; exact he)
        refine ⟨x, y, ?_⟩
        rw [z, List.getD_eq_getElem?_getD, List.getD_eq_getElem?_getD, List.getElem?_append_left (by omega)]
      obtain ⟨b1, b2⟩ := j4 F γ m hz fun i e he => by
        obtain ⟨x, y, z⟩ := hc (es.length + i) e (by rw [List.getElem?_append_right (by omega), Nat.add_sub_cancel_left]; exact he)
        rw [Nat.add_assoc]
        refine ⟨x, y, ?_⟩
        rw [z, List.getD_eq_getElem?_getD, List.getD_eq_getElem?_getD, k2, List.getElem?_append_right (by omega), Nat.add_sub_cancel_left]
      refine ⟨⟨hc2 F γ m a1, b1⟩, fun i e he => ?_⟩
      by_cases hi : i < es.length
      · rw [List.getElem?_append_left hi] at he; exact a2 i e he
      · rw [List.getElem?_append_right (by omega)] at he
        have := b2 _ e he
        rwa [show q + es.length + (i - es.length) = q + i by omega] at this
  · by_cases hi : i < gs.length
    · rw [List.getElem?_append_left hi] at hg; exact h.bnd i g b hg
    · rw [List.getElem?_append_right (by omega)] at hg; exact h'.bnd _ g b hg
theorem read_args (hsp : ∀ b, spare b = true) (K : Kids P (· < P.types.size)) {r : Reach} {b0 : Nat} : ∀ (ts : List TypeId) (ps : List PP), shapes P ts = some ps → (∀ t ∈ ts, t < P.types.size) → ∀ (Vs : List Value) (ds : List (DataW H)) (pl : List MemPlace), (∀ (j : Nat) t v, ts[j]? = some t → Vs[j]? = some v → Value.okWide P w r b0 t v) →
    DataW.TrodAll enc P w base spare held ts Vs ds pl → ∃ us gs, RdA w ps Vs us gs (DataW.weightsEach P ts ds)
  | [], ps, h, _, Vs, ds, pl, _, hT => by
    simp only [shapes, Option.some.injEq] at h; subst h
    obtain ⟨rfl, rfl, rfl⟩ := trodAll_nil hT
    exact ⟨[], [], ⟨trivial, fun _ _ => trivial, fun q r => ⟨[], [], rfl, rfl, fun e he => by simp at he, fun F γ m _ _ => ⟨trivial, fun i e he => by simp at he⟩⟩, fun i g b h => by simp at h⟩⟩
  | t :: ts, ps, h, hk, Vs, ds, pl, hval, hT => by
    simp only [shapes] at h
    split at h
    case h_2 => cases h
    rename_i a b ha hb
    obtain rfl := Option.some.inj h
    obtain ⟨V, Vs', d, ds', p, q, rfl, rfl, rfl, h1, h2⟩ := trodAll_cons hT
    obtain ⟨us', gs', r2⟩ := read_args hsp K ts b hb (fun t ht => hk t (by simp [ht])) Vs' ds' q (fun j t' v ht hv => hval (j + 1) t' v (by simpa using ht) (by simpa using hv)) h2
    have hv := hval 0 t V rfl rfl
    have h1' := h1
    obtain ⟨fuel, hf⟩ := h1
    unfold shapeOf at ha
    split at ha
    case h_2 => cases ha
    rename_i cps hcps
    obtain ⟨us, gs, r1⟩ := flat_read hsp K 8 t cps (hk t (by simp)) hcps fuel _ _ hf
    refine ⟨us ++ us', gs ++ gs', ?_⟩
    split at ha
    · rename_i fs hu
      obtain rfl := Option.some.inj ha
      obtain ⟨cs, rfl, _⟩ := okWide_struct hu hv
      exact RdA.cons (p := .agg cps) r1 r2 ⟨cs, rfl⟩
    · cases ha
    · rename_i hns hna hu
      split at ha
      · obtain rfl := Option.some.inj ha
        exact RdA.cons (p := .one _) r1 r2 (cell_ok hcps (fun fs h => hns fs (Option.some.inj (hu.symm.trans h))) hv h1')
      · cases ha
    · cases ha
theorem mkPs_len : ∀ {ps : List PP} {q : Nat} {us : List U} {vs : List PV} {es : List Ent} {r : List U}, mkPs q ps us = some (vs, es, r) → vs.length = ps.length
  | [], q, us, vs, es, r, h => by simp only [mkPs, Option.some.injEq, Prod.mk.injEq] at h; rw [← h.1]; rfl
  | p :: ps, q, us, vs, es, r, h => by
    simp only [mkPs] at h
    split at h
    · split at h
      · rename_i h2
        simp only [Option.some.injEq, Prod.mk.injEq] at h
        obtain ⟨rfl, _, _⟩ := h
        simp [mkPs_len h2]
      · cases h
    · cases h
/-- A function's call, its arguments read by their shapes: a truth that it answers. -/
theorem FnOk.law {f : FuncId} {sp : Spec} (h : FnOk P f sp) {Vs : List Value} {us : List U} {gs : List (Option (Nat × Nat))} {W : List Nat} (hr : RdA w sp.args Vs us gs W) {r : sp.β} (hG : sp.G us = some r) {c : Bool} (hres : mkPs 0 sp.res (sp.enc r) = some ([.one (.val (.bool c))], [], [])) (ho : outsOf sp.args = [] := by rfl) :
    Calls P f Vs.toArray w fun e w' => e = .returned (.bool c) ∧ Below w.heap.size w w' := by
  obtain ⟨cs, es, k1, k2, k3, k4⟩ := hr.make 0 []
  rw [List.append_nil] at k1
  obtain ⟨Z, hZ⟩ : ∃ Z : Nat → Prop, ∀ g, Z g ↔ g < w.heap.size := ⟨fun g => g < w.heap.size, fun _ => Iff.rfl⟩
  obtain ⟨γ, hγ⟩ : ∃ γ : GM, ∀ i, γ i = gs.getD i none := ⟨_, fun _ => rfl⟩
  have hgs : ∀ i g base, γ i = some (g, base) → gs[i]? = some (some (g, base)) := fun i g base hg => by
    rw [hγ, List.getD_eq_getElem?_getD] at hg
    cases hx : gs[i]? with
    | none => rw [hx] at hg; cases hg
    | some y => rw [hx] at hg; simp only [Option.getD_some] at hg; rw [hg]
  obtain ⟨a1, a2⟩ := k4 ⟨fun b => b < es.length, Z⟩ γ (memOf es) (fun g hg => (hZ g).2 hg) fun i e he => by
    refine ⟨by have := (List.getElem?_eq_some_iff.1 he).1; show 0 + i < es.length; omega, by rw [memOf_eq, Nat.zero_add]; exact he, by rw [Nat.zero_add]; exact hγ i⟩
  have mo : ∀ {b e}, memOf es b = some e → es[b]? = some e := fun h => by rw [memOf_eq] at h; exact h
  have noown : ∀ {b e}, memOf es b = some e → e.own = true → False := fun h ho => by
    rw [(k3 _ (List.mem_of_getElem? (mo h))).1] at ho; cases ho
  have hroot : rootIds 0 sp.args = [] := List.eq_nil_of_length_eq_zero (by rw [rootIds_len, ho]; rfl)
  have hM : Mem ⟨Z, ownedOf γ es, []⟩ w ⟨fun b => b < es.length, Z⟩ γ (memOf es) (rootIds 0 sp.args) w :=
    ⟨Bel.refl _ _, fun b e he => ⟨(List.getElem?_eq_some_iff.1 (mo he)).1, by have := a2 b e (mo he); rwa [Nat.zero_add] at this⟩, fun b e g base he ho _ => (noown he ho).elim, fun b e g base he ho _ => (noown he ho).elim,
      fun b e g base he _ hg => (hZ g).2 (hr.bnd b g base (hgs b g base hg)), fun b e g base he hg => hr.bnd b g base (hgs b g base hg), fun b o kk vk xs g base he hg => by
        exact absurd (k3 _ (List.mem_of_getElem? (mo he))).2 (by simp [Blk.isRows]), fun g hg => by
        exact ⟨(hZ g).1 hg, .inl hg, fun b e base he ho => (noown he ho).elim⟩, fun b hb => by rw [hroot] at hb; simp at hb⟩
  refine (h us r hG Z γ w Vs cs es k1 a1 hM).mono ?_
  rintro e w' ⟨V', rfl, hbel, Z', hZ', hq⟩
  obtain ⟨γ', vs', es', h1, h2, _⟩ := hq 0
  rw [ho, List.append_nil, hres] at h1
  have h1 := Option.some.inj h1
  simp only [Prod.mk.injEq] at h1
  obtain ⟨rfl, rfl, _⟩ := h1
  have := (h2 ⟨fun _ => False, Z'⟩ (fun _ => none) (fun _ => none) (fun _ h => h) (fun i e he => by simp at he)).1
  have hlen : len sp.res = 1 := by
    have := mkPs_len hres
    rw [len_eq, ← this]; rfl
  rw [hlen] at this
  have : V' = .bool c := this
  subst this
  exact ⟨rfl, hbel.os, hbel.tape, hbel.output, hbel.size, fun k hk => hbel.block k hk fun ⟨b, e, base, h1, h2, _⟩ => noown (by rw [memOf_eq]; exact h1) h2⟩
/-- What is read is within the reach. -/
theorem sized_fits {ts vt : List TypeId} {ds vs : List (DataW H)} {Vs : List Value} {ps : List PP} {us : List U} {gs : List (Option (Nat × Nat))} (hr : RdA w ps Vs us gs (DataW.weightsEach P ts ds)) (hl : ds.length = ts.length)
    (hw : (DataW.weightsEach P (ts ++ vt) (ds ++ vs)).all (· ≤ reachBytes) = true) : UsFit reachBytes (cpsOf ps) us := by
  refine hr.fit reachBytes fun n hn => ?_
  have key : ∀ {ts : List TypeId} {ds : List (DataW H)}, ts.length = ds.length → n ∈ DataW.weightsEach P ts ds → n ∈ DataW.weightsEach P (ts ++ vt) (ds ++ vs) := by
    intro ts
    induction ts with
    | nil => intro ds _ h; simp [DataW.weightsEach] at h
    | cons t ts ih =>
      intro ds hl h
      cases ds with
      | nil => cases hl
      | cons d ds =>
        simp only [List.cons_append, DataW.weightsEach, List.mem_append] at h ⊢
        rcases h with h | h
        · exact .inl h
        · exact .inr (ih (by simpa using hl) h)
  have := List.all_eq_true.1 hw n (key (by omega) hn)
  simpa using this
/-- Behind a call that turned nothing of what was there the arguments read as they did. -/
theorem args_again (K : Kids P (· < P.types.size)) (hz : ∀ t e, t < P.types.size → P.underlying t = some (.slice e) → 0 < P.cellsOf e) {w' : World} (hb : Below w.heap.size w w') {ts : List TypeId} (hk : ∀ t ∈ ts, t < P.types.size) {Vs : List Value} {ds : List (DataW H)} {pl : List MemPlace}
    (hT : DataW.TrodAll enc P w base (fun _ => true) true ts Vs ds pl) : DataW.TrodAll enc P w' base (fun b => decide (b < w.heap.size)) true ts Vs ds pl := by
  have hlt := DataW.TrodAll.lt hT
  have carry : ∀ {ts : List TypeId} {Vs : List Value} {ds : List (DataW H)} {pl : List MemPlace}, (∀ p ∈ pl, p.block < w.heap.size) → DataW.TrodAll enc P w base (fun _ => true) true ts Vs ds pl → DataW.TrodAll enc P w' base (fun _ => true) true ts Vs ds pl := by
    intro ts
    induction ts with
    | nil => intro Vs ds pl _ h; obtain ⟨rfl, rfl, rfl⟩ := trodAll_nil h; exact rfl
    | cons t ts ih =>
      intro Vs ds pl hl h
      obtain ⟨V, Vs', d, ds', p, q, rfl, rfl, rfl, h1, h2⟩ := trodAll_cons h
      obtain ⟨fuel, hf⟩ := h1
      exact ⟨p, q, ⟨fuel, DataW.trod_carry fuel _ _ _ hf fun x hx => hb.same (hl x (List.mem_append_left _ hx))⟩, ih (fun x hx => hl x (List.mem_append_right _ hx)) h2, rfl⟩
  exact DataW.TrodAll.respare K hz hk (carry hlt hT) fun p hp => by simpa using hlt p hp
end
/-- How long a slice of records is that comes second, after a number: no longer than the reach allows. -/
theorem recs_second {w : World} {k0 : IntKind} {ks : List IntKind} {o : Bool} {ps : List PP} {Vs : List Value} {x0 : Int} {xs : List (List Int)} {us : List U} {gs : List (Option (Nat × Nat))} {W : List Nat} (h : RdA w (.one (.int k0) :: .one (.recs ks o) :: ps) Vs (.i x0 :: .rr xs :: us) gs W) :
    ∃ V0 a l c Vs', Vs = V0 :: .slice a l c :: Vs' ∧ l = xs.length := by
  obtain ⟨cs, es, h1, h2, h3, h4⟩ := h.make 0 []
  obtain ⟨a4, _⟩ := h4 ⟨fun _ => True, fun _ => True⟩ (fun q => gs.getD q none) (fun q => es[q]?) (fun _ _ => trivial) (fun i e he => ⟨trivial, by simpa using he, by simp⟩)
  simp only [List.cons_append, mkPs, mkP, mkCs, len] at h1
  split at h1
  · rename_i vs es' r' h5
    split at h5
    · rename_i vs2 es2 r2 h8
      simp only [Option.some.injEq, Prod.mk.injEq] at h1 h5
      obtain ⟨rfl, rfl, -⟩ := h5
      obtain ⟨rfl, rfl, -⟩ := h1
      match Vs, a4 with
      | V0 :: V1 :: Vs', h6 =>
        obtain ⟨_, _, h7⟩ := h6.2.1
        rcases h7 ⟨o, .recs ks xs⟩ (by simp) with ⟨z, a, rfl⟩ | ⟨g, b, c, _, rfl, _⟩
        · exact ⟨V0, a, 0, 0, Vs', rfl, z.symm⟩
        · exact ⟨V0, _, _, c, Vs', rfl, rfl⟩
    · cases h5
  · cases h1
theorem recs_fits {H : Type} {enc : TypeId × Value → H} {P : Program} {w : World} {b0 : Nat} {spare : Nat → Bool} {held : Bool} {k0 : IntKind} {ks : List IntKind} {o : Bool} {ps : List PP} {Vs : List Value} {x0 : Int} {xs : List (List Int)} {us : List U} {gs : List (Option (Nat × Nat))} {t0 t1 e : TypeId} {ts vt : List TypeId} {ds vs : List (DataW H)} {pl : List MemPlace}
    {W : List Nat} (h : RdA w (.one (.int k0) :: .one (.recs ks o) :: ps) Vs (.i x0 :: .rr xs :: us) gs W) (hT : DataW.TrodAll enc P w b0 spare held (t0 :: t1 :: ts) Vs ds pl) (hu : P.underlying t1 = some (.slice e))
    (hw : (DataW.weightsEach P (t0 :: t1 :: ts ++ vt) (ds ++ vs)).all (· ≤ reachBytes) = true) : xs.length * P.bytesOf e ≤ reachBytes := by
  obtain ⟨V0, a, l, c, Vs', rfl, rfl⟩ := recs_second h
  obtain ⟨_, _, d0, ds', _, _, e1, rfl, _, _, hT'⟩ := trodAll_cons hT
  obtain ⟨rfl, rfl⟩ := by simpa using e1
  obtain ⟨_, _, d1, ds'', _, _, e2, rfl, _, ⟨fuel, hd⟩, _⟩ := trodAll_cons hT'
  obtain ⟨rfl, rfl⟩ := by simpa using e2
  rcases Go.Deep.open_slice hu hd with ⟨h1, _⟩ | ⟨a', len', cap', m, n, D, Pl, h1, _, _, _, _, h2, _⟩
  · have h1' : [Value.slice a xs.length c] = [Value.slice none 0 0] := h1
    have : xs.length = 0 := by simp only [List.cons.injEq, Value.slice.injEq, and_true] at h1'; exact h1'.2.1
    rw [this]; simp
  · have h1' : [Value.slice a xs.length c] = [Value.slice (some a') len' cap'] := h1
    have hl : xs.length = len' := by simp only [List.cons.injEq, Value.slice.injEq, and_true] at h1'; exact h1'.2.1
    have hd1 : d1 = .slice ((List.range len').map D) ((List.range (m - len')).map fun j => D (len' + j)) := congrArg Prod.fst h2
    have s := sized_slice hw (j := 1) (t := t1) (e := e) (elems := (List.range len').map D) (spare := (List.range (m - len')).map fun j => D (len' + j)) (by simp) (by simp [hd1]) hu
    refine Nat.le_trans ?_ s
    refine Nat.mul_le_mul_right _ ?_
    simp; omega
end Go.Proofs.Ytmmaechogibodaa.Vm
