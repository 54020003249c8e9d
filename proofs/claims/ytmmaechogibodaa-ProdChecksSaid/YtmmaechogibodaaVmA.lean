/- An abstract interpreter of the model's code: states with open numbers, blocks of memory by names of their own. What it answers is shown to be what the code does in VmB and on. Conditions: none here. -/
import Derived.Below
import Derived.Orders
import Derived.Calls
import Derived.KernelRfl
set_option linter.unusedVariables false
namespace Go.Proofs.Ytmmaechogibodaa.Vm
open Go

/-- The member of a list at a place. -/
def nth {α : Type} (d : α) : List α → Nat → α
  | [], _ => d
  | a :: _, 0 => a
  | _ :: l, n + 1 => nth d l n
/-- The list with another member at a place. -/
def put {α : Type} : List α → Nat → α → List α
  | [], _, _ => []
  | _ :: l, 0, b => b :: l
  | a :: l, n + 1, b => a :: put l n b
def nth? {α : Type} : List α → Nat → Option α
  | [], _ => none
  | a :: _, 0 => some a
  | _ :: l, n + 1 => nth? l n
def len {α : Type} : List α → Nat
  | [] => 0
  | _ :: l => len l + 1

/-- A decision tree over open values. -/
inductive T (α : Type) : Type 1 where
  | ret (a : α)
  | fail
  | ite (c : Bool) (t e : T α)
  | bnd {β : Type} (o : Option β) (k : β → T α)
  | cas {β γ : Type} (o : Option (β ⊕ γ)) (k : β → T α) (l : γ → T α)
  | opn (o : Option α)
/-- Which of two. -/
def casO {β γ α : Type} (o : Option (β ⊕ γ)) (k : β → Option α) (l : γ → Option α) : Option α :=
  o.bind fun x => match x with | .inl r => k r | .inr r => l r
def T.bind {α β : Type} : T α → (α → T β) → T β
  | .ret a, f => f a
  | .fail, _ => .fail
  | .ite c t e, f => .ite c (t.bind f) (e.bind f)
  | .bnd o k, f => .bnd o fun r => (k r).bind f
  | .cas o k l, f => .cas o (fun r => (k r).bind f) (fun r => (l r).bind f)
  | .opn o, f => .bnd o f
def T.den {α : Type} : T α → Option α
  | .ret a => some a
  | .fail => none
  | .ite c t e => if c then t.den else e.den
  | .bnd o k => o.bind fun r => (k r).den
  | .cas o k l => casO o (fun r => (k r).den) (fun r => (l r).den)
  | .opn o => o
def T.req {α : Type} (c : Bool) (t : T α) : T α := .ite c t .fail
def T.opt {α β : Type} (o : Option α) (k : α → T β) : T β := match o with | some a => k a | none => .fail

/-- The shape of what is told by its data: whole numbers, truths, texts, slices of rows of such. -/
inductive Sh where
  | int (k : IntKind)
  | bool
  | str
  | sl (l : List Sh)
/-- Data of a shape. -/
inductive D where
  | i (x : Int)
  | b (x : Bool)
  | s (x : ByteArray)
  | l (x : List (List D))
def d0 : D := .i 0
def D.toI : D → Int
  | .i x => x
  | _ => 0
def D.toB : D → Bool
  | .b x => x
  | _ => false
def D.toS : D → ByteArray
  | .s x => x
  | _ => ⟨#[]⟩
def D.toL : D → List (List D)
  | .l x => x
  | _ => []
def allEq2 {α β : Type} (f : α → β → Bool) : List α → List β → Bool
  | [], [] => true
  | a :: l, b :: m => match f a b with | true => allEq2 f l m | false => false
  | _, _ => false
def allEq {α : Type} (f : α → α → Bool) : List α → List α → Bool
  | [], [] => true
  | a :: l, b :: m => match f a b with | true => allEq f l m | false => false
  | _, _ => false
def shEq : Nat → Sh → Sh → Bool
  | 0, _, _ => false
  | _ + 1, .int k, .int k' => if k = k' then true else false
  | _ + 1, .bool, .bool => true
  | _ + 1, .str, .str => true
  | n + 1, .sl l, .sl m => allEq (shEq n) l m
  | _ + 1, _, _ => false
def shsEq (l m : List Sh) : Bool := allEq (shEq 8) l m
/-- What one cell holds: a value as it is; the address of a cell of a block (member i, of n cells, cell j); a slice that is all of a block; a slice of a part of it; a slice of memory that nobody writes any more, by its data; the address of a cell of such a row; a map; the address of a cell of a block that is told by its data; nothing that is known. -/
inductive CV where
  | val (v : Value)
  | ptr (b i n j : Nat)
  | slf (b : Nat)
  | slc (b off len : Nat)
  | ro (l : List Sh) (x : List (List D))
  | rop (l : List Sh) (x : List D) (j : Nat)
  | mapr (b : Nat)
  | mptr (b j : Nat) (l : List Sh)
  | dt (h : Sh) (d : D)
  | any
/-- What a datum is as a cell. -/
def cvOf : Sh → D → CV
  | .int k, d => .val (.int k d.toI)
  | .bool, d => .val (.bool d.toB)
  | .str, d => .val (.string d.toS)
  | .sl l, d => .ro l d.toL
def cvsL : List Sh → List D → Nat → List CV
  | [], _, _ => []
  | h :: l, ds, j => cvOf h (nth d0 ds j) :: cvsL l ds (j + 1)
inductive PV where
  | one (c : CV)
  | agg (l : List CV)
  | dat (l : List Sh) (ds : List D)
inductive SV where
  | pv (p : PV)
  | tup (l : List PV)
/-- A block: cells, each known; whole numbers of a kind in a row; rows of them. -/
inductive Blk where
  | cells (l : List CV)
  | row (k : IntKind) (xs : List Int)
  | recs (ks : List IntKind) (xs : List (List Int))
  | grow (l : List Sh) (xs : List (List D))
  | mem (l : List Sh) (ds : List D)
  | map (kk vk : List IntKind) (es : List (List Int × List Int))
structure Ent where
  own : Bool
  blk : Blk
structure St where
  tmps : List SV
  mem : Nat → Option Ent
  nx : Nat
  rt : List Nat

def Blk.len : Blk → Nat
  | .cells _ => 0
  | .row _ xs => xs.length
  | .recs _ xs => xs.length
  | .grow _ xs => xs.length
  | .mem .. => 0
  | .map .. => 0
def Blk.n : Blk → Nat
  | .cells _ => 0
  | .row .. => 1
  | .recs ks _ => Vm.len ks
  | .grow l _ => Vm.len l
  | .mem .. => 0
  | .map .. => 0
/-- What of a block never turns. -/
def Blk.tag : Blk → Option (List Sh)
  | .mem l _ => some l
  | .map .. => some []
  | _ => none

def undefS : SV := .pv (.one (.val undef))
def anyS : SV := .pv (.one .any)
def pvOf : Value → PV
  | .agg cs => .agg (cs.toList.map .val)
  | v => .one (.val v)
def svOf : Value → SV
  | .agg cs => .pv (.agg (cs.toList.map .val))
  | .tuple vs => .tup (vs.toList.map pvOf)
  | v => .pv (.one (.val v))
def St.ev (s : St) : Operand → SV
  | .tmp t => nth undefS s.tmps t
  | .const v => svOf v
  | .global g => .pv (.one (.val (.pointer (some ⟨g, 0, none⟩))))
  | .func f => .pv (.one (.val (.func (.func f) #[] #[])))

/-- What an operation answers: a value, and what has become of blocks. -/
structure Out where
  v : SV
  upd : List (Nat × Option Ent)
def updM (m : Nat → Option Ent) : List (Nat × Option Ent) → Nat → Option Ent
  | [], b => m b
  | (q, e) :: r, b => updM (fun c => if c == q then e else m c) r b
def St.app (s : St) (dst : Option Tmp) (o : Out) : St :=
  { s with tmps := match dst with | some d => put s.tmps d o.v | none => s.tmps, mem := updM s.mem o.upd }

/-- What a step of the model answers whatever the world is. -/
def pureOf (P : Program) {α : Type} : Sem α → Option α
  | .pure a => some a
  | .program k => pureOf P (k P)
  | .mark _ k => pureOf P k
  | _ => none
def cvVal : CV → Option Value
  | .val v => some v
  | _ => none
def cvVals : List CV → Option (List Value)
  | [] => some []
  | c :: l => match cvVal c with
    | some v => match cvVals l with
      | some vs => some (v :: vs)
      | none => none
    | none => none
def pvVal : PV → Option Value
  | .one c => cvVal c
  | .agg l => match cvVals l with | some vs => some (.agg vs.toArray) | none => none
  | .dat .. => none
def svVal : SV → Option Value
  | .pv p => pvVal p
  | .tup _ => none
def known (ρ : Operand → SV) : List Operand → Bool
  | [] => true
  | x :: l => match svVal (ρ x) with | some _ => known ρ l | none => false
def valOf (ρ : Operand → SV) (x : Operand) : Value := match svVal (ρ x) with | some v => v | none => undef
def ret1 (v : SV) : T Out := .ret ⟨v, []⟩
def ret0 (upd : List (Nat × Option Ent)) : T Out := .ret ⟨undefS, upd⟩
def int1 (k : IntKind) (x : Int) : T Out := .ret ⟨.pv (.one (.val (.int k x))), []⟩
/-- An operation that only computes. -/
def exPure (P : Program) (ρ : Operand → SV) (o : Oper) : T Out :=
  match known ρ o.op.operands.toList with
  | true => match pureOf P (execOp (valOf ρ) o) with
    | some (.value v) => ret1 (svOf v)
    | _ => .fail
  | false => .fail

def aggT (P : Program) (t : TypeId) : Option Bool := match P.underlying t with | some (.struct _) => some true | some (.array ..) => some true | some _ => some false | none => none
def sizeT (P : Program) (t : TypeId) : Option Nat := match P.info? t with | some i => some i.size | none => none
def elemT (P : Program) (t : TypeId) : Option TypeId := match P.underlying t with | some (.slice e) => some e | _ => none
def cellsPV : PV → List CV
  | .one c => [c]
  | .agg l => l
  | .dat l ds => cvsL l ds 0
def cut {α : Type} : List α → Nat → Nat → Option (List α)
  | _, _, 0 => some []
  | [], _, _ + 1 => none
  | a :: l, 0, n + 1 => match cut l 0 n with | some r => some (a :: r) | none => none
  | _ :: l, o + 1, n + 1 => cut l o (n + 1)
/-- The list with other members from a place on, as far as they fit. -/
def over {α : Type} : List α → Nat → List α → Option (List α)
  | l, _, [] => some l
  | [], _, _ :: _ => none
  | _ :: l, 0, b :: r => match over l 0 r with | some q => some (b :: q) | none => none
  | a :: l, o + 1, r => match over l o r with | some q => some (a :: q) | none => none
def shapePV (agg : Option Bool) (l : List CV) : Option PV :=
  match agg with
  | some true => some (.agg l)
  | some false => match l with | [c] => some (.one c) | _ => none
  | none => none

/-- Values of one cell each. -/
def oneOk : CV → Bool
  | .val (.agg _) => false
  | .val (.tuple _) => false
  | .any => false
  | _ => true
def allOk : List CV → Bool
  | [] => true
  | c :: l => match oneOk c with | true => allOk l | false => false
def okPV : PV → Bool
  | .one c => oneOk c
  | .agg l => allOk l
  | .dat .. => true
def exNew (nid : Nat) (l : List CV) : T Out := .ret ⟨.pv (.one (.ptr nid 0 0 0)), [(nid, some ⟨true, .cells l⟩)]⟩
/-- The kind of an array's members, if they are whole numbers. -/
def arrK (P : Program) (t : TypeId) : Option IntKind :=
  match P.underlying t with
  | some (.array _ e) => match P.underlying e with | some (.int k) => some k | _ => none
  | _ => none
/-- Numbers of the kinds that are wanted. -/
def intsOf : List IntKind → List CV → Option (List Int)
  | [], [] => some []
  | k :: ks, .val (.int k' x) :: l => if k = k' then (match intsOf ks l with | some r => some (x :: r) | none => none) else none
  | _, _ => none
def rep {α : Type} : Nat → α → List α
  | 0, _ => []
  | n + 1, a => a :: rep n a
/-- Numbers as data; data as numbers. -/
def intsD : List IntKind → List Int → Nat → List D
  | [], _, _ => []
  | _ :: ks, r, j => .i (nth 0 r j) :: intsD ks r (j + 1)
def toIs : List IntKind → List D → Nat → List Int
  | [], _, _ => []
  | _ :: ks, r, j => (nth d0 r j).toI :: toIs ks r (j + 1)
def shInts : List IntKind → List Sh
  | [] => []
  | k :: ks => .int k :: shInts ks
/-- The data of a block's members. -/
def blkD (l : List Sh) : Blk → Option (List (List D))
  | .row k xs => match shsEq l [.int k] with | true => some (xs.map fun x => [.i x]) | false => none
  | .recs ks xs => match shsEq l (shInts ks) with | true => some (xs.map fun r => intsD ks r 0) | false => none
  | .grow l' xs => match shsEq l l' with | true => some xs | false => none
  | _ => none
/-- A cell's datum. A slice's block must be one that nobody writes any more. -/
def toD (μ : Nat → Option Ent) : Sh → CV → Option D
  | .int k, .val (.int k' x) => if k = k' then some (.i x) else none
  | .bool, .val (.bool x) => some (.b x)
  | .str, .val (.string x) => some (.s x)
  | .sl l, .ro l' x => match shsEq l l' with | true => some (.l x) | false => none
  | .sl _, .val (.slice none 0 0) => some (.l [])
  | .sl l, .slf b => match μ b with
    | some ⟨false, blk⟩ => match blkD l blk with | some x => some (.l x) | none => none
    | _ => none
  | .sl l, .slc b off n => match μ b with
    | some ⟨false, blk⟩ => match blkD l blk with | some x => some (.l ((x.drop off).take n)) | none => none
    | _ => none
  | _, _ => none
def toDs (μ : Nat → Option Ent) : List Sh → List CV → Option (List D)
  | [], [] => some []
  | h :: l, c :: cs => match toD μ h c with
    | some d => match toDs μ l cs with | some ds => some (d :: ds) | none => none
    | none => none
  | _, _ => none
/-- The blocks of slices that are to be told by their data: they are frozen. -/
def frD : Sh → CV → List Nat
  | .sl _, .slf b => [b]
  | .sl _, .slc b _ _ => [b]
  | _, _ => []
def frDs : List Sh → List CV → List Nat
  | h :: l, c :: cs => frD h c ++ frDs l cs
  | _, _ => []
def frz (μ : Nat → Option Ent) : List Nat → List (Nat × Option Ent)
  | [] => []
  | b :: l => match μ b with
    | some ⟨true, blk⟩ => (b, some ⟨false, blk⟩) :: frz μ l
    | _ => frz μ l
def mem? (x : Nat) : List Nat → Bool
  | [] => false
  | y :: l => match x == y with | true => true | false => mem? x l
/-- Cells as data, for a block: what is frozen for it, and the data. -/
def frNew (μ : Nat → Option Ent) (b : Nat) (l : List Sh) (cs : List CV) : Option (List (Nat × Option Ent) × List D) :=
  match mem? b (frDs l cs) with
  | true => none
  | false => match toDs (updM μ (frz μ (frDs l cs))) l cs with
    | some vs => some (frz μ (frDs l cs), vs)
    | none => none
/-- The layout of a type's cells. -/
def layFs (rec : TypeId → Option (List Sh)) : List Field → Nat → Option (List Sh)
  | [], _ => some []
  | f :: l, o => if f.offset = o then (match rec f.type with
    | some a => match layFs rec l (o + len a) with | some r => some (a ++ r) | none => none
    | none => none) else none
def repL {α : Type} : Nat → List α → List α
  | 0, _ => []
  | n + 1, a => a ++ repL n a
def lay (P : Program) : Nat → TypeId → Option (List Sh)
  | 0, _ => none
  | n + 1, t => match P.underlying t with
    | some .bool => some [.bool]
    | some (.int k) => some [.int k]
    | some .string => some [.str]
    | some (.slice e) => match lay P n e with | some l => some [.sl l] | none => none
    | some (.struct fs) => layFs (lay P n) fs.toList 0
    | some (.array m e) => match lay P n e with | some l => some (repL m l) | none => none
    | _ => none
/-- Does a type hold arrays whose members are no whole numbers? -/
def hasArrF (rec : TypeId → Bool) : List Field → Bool
  | [] => false
  | f :: l => match rec f.type with | true => true | false => hasArrF rec l
def hasArr (P : Program) : Nat → TypeId → Bool
  | 0, _ => false
  | n + 1, t => match P.underlying t with
    | some (.struct fs) => hasArrF (hasArr P n) fs.toList
    | some (.array _ e) => match P.underlying e with | some (.int _) => false | _ => true
    | _ => false
def valD : Sh → Value → Option D
  | .int k, .int k' x => if k = k' then some (.i x) else none
  | .bool, .bool x => some (.b x)
  | .str, .string x => some (.s x)
  | .sl _, .slice none 0 0 => some (.l [])
  | _, _ => none
def valsD : List Sh → List Value → Option (List D)
  | [], [] => some []
  | h :: l, v :: vs => match valD h v with
    | some d => match valsD l vs with | some ds => some (d :: ds) | none => none
    | none => none
  | _, _ => none
def exNewV (P : Program) (nid : Nat) (t : TypeId) (l : List CV) : T Out :=
  match arrK P t with
  | some k => match intsOf (rep (len l) k) l with
    | some (x :: xs) => .ret ⟨.pv (.one (.ptr nid 0 1 0)), [(nid, some ⟨true, .row k (x :: xs)⟩)]⟩
    | _ => .fail
  | none => exNew nid l
def exNewM (nid : Nat) (l : List Sh) (ds : List D) : T Out := .ret ⟨.pv (.one (.mptr nid 0 l)), [(nid, some ⟨true, .mem l ds⟩)]⟩
def exAlloc (P : Program) (nid : Nat) (t : TypeId) : T Out :=
  match P.info? t with
  | some i => match i.zero with
    | some z => match hasArr P 4 t with
      | false => exNewV P nid t (z.cells.toList.map .val)
      | true => match lay P 8 t with
        | some l => match valsD l z.cells.toList with
          | some ds => exNewM nid l ds
          | none => .fail
        | none => .fail
    | none => .fail
  | none => .fail
/-- A value that holds arrays of structs, all of it known, by its data. -/
def boxD (P : Program) (t : TypeId) (l : List CV) : Option (List Sh × List D) :=
  match hasArr P 4 t with
  | true => match cvVals l, lay P 8 t with
    | some vs, some L => match valsD L vs with | some ds => some (L, ds) | none => none
    | _, _ => none
  | false => none
def exBox (P : Program) (nid : Nat) (t : TypeId) (x : SV) : T Out := match x with
  | .pv (.dat l ds) => exNewM nid l ds
  | .pv (.agg l) => (match boxD P t l with
    | some (L, ds) => exNewM nid L ds
    | none => match okPV (.agg l) with | true => exNewV P nid t (cellsPV (.agg l)) | false => .fail)
  | .pv p => (match okPV p with | true => exNewV P nid t (cellsPV p) | false => .fail)
  | .tup _ => .fail

/-- The fields of a struct: where, and how many cells. -/
def placesF (P : Program) : List Field → Option (List (Nat × Nat))
  | [] => some []
  | f :: l => match sizeT P f.type, placesF P l with | some n, some r => some ((f.offset, n) :: r) | _, _ => none
def fillL (pl : Nat → Option (Nat × Nat)) (ρ : Operand → SV) : List CV → List (Nat × Operand) → Option (List CV)
  | cs, [] => some cs
  | cs, (i, x) :: r => match pl i, ρ x with
    | some (off, n), .pv p => if len (cellsPV p) = n ∧ n ≠ 0 ∧ okPV p = true then (match over cs off (cellsPV p) with | some q => fillL pl ρ q r | none => none) else none
    | _, _ => none
def exBuild (P : Program) (ρ : Operand → SV) (t : TypeId) (parts : Array (Nat × Operand)) : T Out :=
  match P.info? t with
  | some i => match i.zero with
    | some z => match P.underlying t with
      | some (.struct fs) => match placesF P fs.toList with
        | some pl => match fillL (nth? pl) ρ (z.cells.toList.map .val) parts.toList with
          | some l => ret1 (.pv (.agg l))
          | none => .fail
        | none => .fail
      | some (.array _ e) => match sizeT P e with
        | some n => match fillL (fun i => some (i * n, n)) ρ (z.cells.toList.map .val) parts.toList with
          | some l => ret1 (.pv (.agg l))
          | none => .fail
        | none => .fail
      | _ => .fail
    | none => .fail
  | none => .fail

def fieldT (P : Program) (t : TypeId) (i : Nat) : Option (TypeId × Nat × Nat) :=
  match P.underlying t with
  | some (.struct fields) => match fields[i]? with
    | some f => match sizeT P f.type with | some n => some (f.type, f.offset, n) | none => none
    | none => none
  | _ => none
def exField (P : Program) (t : TypeId) (x : SV) (i : Nat) : T Out :=
  match x, fieldT P t i with
  | .pv (.agg l), some (ft, off, n) => match cut l off n with
    | some r => match shapePV (aggT P ft) r with | some p => ret1 (.pv p) | none => .fail
    | none => .fail
  | _, _ => .fail

def intsV (ks : List IntKind) (r : List Int) (j : Nat) : List CV :=
  match ks with
  | [] => []
  | k :: ks => .val (.int k (nth 0 r j)) :: intsV ks r (j + 1)
/-- What stands in a block, from a cell on. -/
def Blk.get (b : Blk) (i j n : Nat) : Option (List CV) :=
  match b with
  | .cells l => cut l j n
  | .row k xs => match j, n with | 0, 1 => some [.val (.int k (nth 0 xs i))] | _, _ => none
  | .recs ks xs => cut (intsV ks (nth [] xs i) 0) j n
  | .grow l xs => cut (cvsL l (nth [] xs i) 0) j n
  | .mem .. => none
  | .map .. => none
/-- So many numbers of a row, from one on. -/
def rowCells (k : IntKind) (xs : List Int) (i : Nat) : Nat → List CV
  | 0 => []
  | n + 1 => .val (.int k (nth 0 xs i)) :: rowCells k xs (i + 1) n
/-- Is it all of a row that is to be read or written? -/
def wholeRow (b : Blk) (agg : Option Bool) (i j : Nat) : Option (IntKind × List Int) :=
  match b, agg, i, j with
  | .row k xs, some true, 0, 0 => some (k, xs)
  | _, _, _, _ => none
def exLoad (P : Program) (μ : Nat → Option Ent) (t : TypeId) (x : SV) : T Out :=
  match x with
  | .pv (.one (.ptr b i _ j)) => match μ b, sizeT P t with
    | some e, some n => match wholeRow e.blk (aggT P t) i j with
      | some (k, xs) => T.req (decide (n ≤ xs.length)) (ret1 (.pv (.agg (rowCells k xs 0 n))))
      | none => match e.blk.get i j n with
        | some l => match shapePV (aggT P t) l with | some p => ret1 (.pv p) | none => .fail
        | none => .fail
    | _, _ => .fail
  | .pv (.one (.rop l x j)) => match sizeT P t with
    | some n => match cut (cvsL l x 0) j n with
      | some r => match shapePV (aggT P t) r with | some p => ret1 (.pv p) | none => .fail
      | none => .fail
    | none => .fail
  | .pv (.one (.mptr b j l)) => match μ b, sizeT P t with
    | some ⟨_, .mem L ds⟩, some n => if len l = n then (match aggT P t with
      | some true => match (len L == n) && (decide (16 < n) && j == 0) with
        | true => ret1 (.pv (.dat L ds))
        | false => ret1 (.pv (.agg (cvsL l ds j)))
      | some false => match l with | [h] => ret1 (.pv (.one (cvOf h (nth d0 ds j)))) | _ => .fail
      | none => .fail) else .fail
    | _, _ => .fail
  | _ => .fail
def Blk.set (b : Blk) (i j : Nat) (vs : List CV) : Option Blk :=
  match b with
  | .cells l => match over l j vs with | some q => some (.cells q) | none => none
  | .row k xs => match j, intsOf [k] vs with | 0, some [x] => some (.row k (xs.set i x)) | _, _ => none
  | .recs ks xs => match cut ks j (Vm.len vs) with
    | some kk => match intsOf kk vs with
      | some r => match over (intsV ks (nth [] xs i) 0) j vs with
        | some q => match intsOf ks q with | some r' => some (.recs ks (xs.set i r')) | none => none
        | none => none
      | none => none
    | none => none
  | _ => none
/-- A row of data with other ones from a place on. -/
def setP : List D → Nat → D → List D
  | [], 0, d => [d]
  | [], n + 1, d => d0 :: setP [] n d
  | _ :: l, 0, d => d :: l
  | a :: l, n + 1, d => a :: setP l n d
def setDs : List D → Nat → List D → List D
  | ds, _, [] => ds
  | ds, j, d :: r => setDs (setP ds j d) (j + 1) r
def exStore (P : Program) (μ : Nat → Option Ent) (t : TypeId) (a x : SV) : T Out :=
  match a, x with
  | .pv (.one (.ptr b i _ j)), .pv p => match μ b, sizeT P t with
    | some ⟨true, blk⟩, some n => if len (cellsPV p) = n ∧ n ≠ 0 ∧ okPV p = true then (match wholeRow blk (aggT P t) i j with
      | some (k, xs) => match intsOf (rep n k) (cellsPV p) with
        | some ys => T.req (decide (xs.length = n)) (ret0 [(b, some ⟨true, .row k ys⟩)])
        | none => .fail
      | none => match blk with
        | .grow l xs => match cut l j n with
          | some lj => match frNew μ b lj (cellsPV p) with
            | some (u, vs) => ret0 (u ++ [(b, some ⟨true, .grow l (xs.set i (setDs (nth [] xs i) j vs))⟩)])
            | none => .fail
          | none => .fail
        | _ => match blk.set i j (cellsPV p) with | some q => ret0 [(b, some ⟨true, q⟩)] | none => .fail) else .fail
    | _, _ => .fail
  | .pv (.one (.mptr b j l)), .pv p => match μ b, sizeT P t with
    | some ⟨true, .mem L ds⟩, some n => match p, (len L == n) && (j == 0 && shsEq l L) with
      | .dat l' ds', true => match shsEq l' L with
        | true => ret0 [(b, some ⟨true, .mem L ds'⟩)]
        | false => .fail
      | _, _ => if len l = n ∧ n ≠ 0 ∧ okPV p = true then (match frNew μ b l (cellsPV p) with
        | some (u, vs) => ret0 (u ++ [(b, some ⟨true, .mem L (setDs ds j vs)⟩)])
        | none => .fail) else .fail
    | _, _ => .fail
  | _, _ => .fail
def exFieldAddr (P : Program) (t : TypeId) (x : SV) (i : Nat) : T Out :=
  match x, fieldT P t i with
  | .pv (.one (.ptr b q n j)), some (_, off, sz) => if sz = 0 then .fail else ret1 (.pv (.one (.ptr b q n (j + off))))
  | .pv (.one (.rop l x j)), some (_, off, sz) => if sz = 0 then .fail else ret1 (.pv (.one (.rop l x (j + off))))
  | .pv (.one (.mptr b j l)), some (_, off, sz) => if sz = 0 then .fail else (match cut l off sz with
    | some r => ret1 (.pv (.one (.mptr b (j + off) r)))
    | none => .fail)
  | _, _ => .fail
def exIndexAddr (P : Program) (μ : Nat → Option Ent) (t : TypeId) (x ix : SV) : T Out :=
  match ix with
  | .pv (.one (.val (.int _ y))) => match P.underlying t, x with
    | some (.array n e), .pv (.one (.ptr b i m j)) => match sizeT P e, μ b with
      | some sz, some ent => match ent.blk, i, j with
        | .row _ xs, 0, 0 => if sz = 1 ∧ m = 1 then T.req (decide (0 ≤ y) && decide (y < (n : Int)) && decide (y.toNat < xs.length)) (ret1 (.pv (.one (.ptr b y.toNat 1 0)))) else .fail
        | .cells _, i, j => T.req (decide (0 ≤ y) && decide (y < (n : Int))) (ret1 (.pv (.one (.ptr b i m (j + y.toNat * sz)))))
        | _, _, _ => .fail
      | _, _ => .fail
    | some (.slice e), .pv (.one (.slf b)) => match μ b, sizeT P e with
      | some ent, some sz => if ent.blk.n = sz then T.req (decide (0 ≤ y) && decide (y < (ent.blk.len : Int))) (ret1 (.pv (.one (.ptr b y.toNat ent.blk.n 0)))) else .fail
      | _, _ => .fail
    | some (.slice e), .pv (.one (.slc b off l)) => match μ b, sizeT P e with
      | some ent, some sz => if ent.blk.n = sz then T.req (decide (0 ≤ y) && decide (y < (l : Int))) (ret1 (.pv (.one (.ptr b (off + y.toNat) ent.blk.n 0)))) else .fail
      | _, _ => .fail
    | some (.slice e), .pv (.one (.ro l x)) => match sizeT P e with
      | some sz => if len l = sz then T.req (decide (0 ≤ y) && decide (y < (x.length : Int))) (ret1 (.pv (.one (.rop l (nth [] x y.toNat) 0)))) else .fail
      | none => .fail
    | some (.array n e), .pv (.one (.mptr b j l)) => match sizeT P e with
      | some sz => match cut l 0 sz with
        | some r => match shsEq l (repL n r) with
          | true => T.req (decide (0 ≤ y) && decide (y < (n : Int))) (ret1 (.pv (.one (.mptr b (j + y.toNat * sz) r))))
          | false => .fail
        | none => .fail
      | none => .fail
    | _, _ => .fail
  | _ => .fail
/-- A byte of a string. -/
@[irreducible] def bt (s : ByteArray) (i : Int) : Int := ((s[i.toNat]?.getD 0).toNat : Int)
/-- One of so many, by its number. -/
def pickY (y : Int) (f : Nat → T Out) : Nat → T Out
  | 0 => .fail
  | m + 1 => .ite (decide (y = (m : Int))) (f m) (pickY y f m)
theorem den_pickY {y : Int} {f : Nat → T Out} {out : Out} : ∀ {n : Nat}, (pickY y f n).den = some out → ∃ i, i < n ∧ y = (i : Int) ∧ (f i).den = some out
  | 0, h => by simp [pickY, T.den] at h
  | m + 1, h => by
    unfold pickY T.den at h
    split at h
    · rename_i hc
      exact ⟨m, by omega, by simpa using hc, h⟩
    · obtain ⟨i, h1, h2, h3⟩ := den_pickY h
      exact ⟨i, by omega, h2, h3⟩
def exIndex (P : Program) (t : TypeId) (x ix : SV) : T Out :=
  match x, ix with
  | .pv (.one (.val (.string s))), .pv (.one (.val (.int _ y))) => match P.underlying t with
    | some .string => T.req (decide (0 ≤ y) && decide (y < (s.size : Int))) (int1 .u8 (bt s y))
    | _ => .fail
  | .pv (.agg l), .pv (.one (.val (.int _ y))) => match P.underlying t with
    | some (.array n e) => match arrK P t with
      | some k => match sizeT P e, intsOf (rep n k) l with
        | some 1, some xs => T.req (decide (0 ≤ y) && decide (y < (n : Int))) (int1 k (nth 0 xs y.toNat))
        | _, _ => .fail
      | none => match sizeT P e with
        | some sz => T.req (decide (0 ≤ y) && decide (y < (n : Int))) (pickY y (fun i => match cut l (i * sz) sz with
          | some r => match shapePV (aggT P e) r with | some p => ret1 (.pv p) | none => .fail
          | none => .fail) n)
        | none => .fail
    | _ => .fail
  | _, _ => .fail
def exExtract (x : SV) (i : Nat) : T Out := match x with
  | .tup l => match nth? l i with | some p => ret1 (.pv p) | none => .fail
  | _ => .fail
/-- Bits of whole numbers. -/
def land (k : IntKind) (a b : Int) : Int := k.wrap (BitVec.toNat (BitVec.ofInt k.bits a &&& BitVec.ofInt k.bits b))
def lor (k : IntKind) (a b : Int) : Int := k.wrap (BitVec.toNat (BitVec.ofInt k.bits a ||| BitVec.ofInt k.bits b))
def lxor (k : IntKind) (a b : Int) : Int := k.wrap (BitVec.toNat (BitVec.ofInt k.bits a ^^^ BitVec.ofInt k.bits b))
def exUn (P : Program) (ρ : Operand → SV) (o : Oper) (op : UnOp) (x : Operand) : T Out :=
  match op, ρ x with
  | .xor, .pv (.one (.val (.int k a))) => int1 k (lxor k (if k.signed then -1 else k.max) a)
  | _, _ => exPure P ρ o
def exBin (P : Program) (ρ : Operand → SV) (o : Oper) (op : BinOp) (x y : Operand) : T Out :=
  match op, ρ x, ρ y with
  | .quo, .pv (.one (.val (.int k a))), .pv (.one (.val (.int k' b))) => if k = k' then .ite (decide (b = 0)) .fail (int1 k (k.wrap (a.tdiv b))) else .fail
  | .rem, .pv (.one (.val (.int k a))), .pv (.one (.val (.int k' b))) => if k = k' then .ite (decide (b = 0)) .fail (int1 k (a.tmod b)) else .fail
  | .shl, .pv (.one (.val (.int k a))), .pv (.one (.val (.int _ b))) => .ite (decide (b < 0)) .fail (int1 k (k.wrap (a * 2 ^ (min b.toNat k.bits))))
  | .shr, .pv (.one (.val (.int k a))), .pv (.one (.val (.int _ b))) => .ite (decide (b < 0)) .fail (int1 k (a.fdiv (2 ^ (min b.toNat k.bits))))
  | .and, .pv (.one (.val (.int k a))), .pv (.one (.val (.int k' b))) => if k = k' then int1 k (land k a b) else .fail
  | .or, .pv (.one (.val (.int k a))), .pv (.one (.val (.int k' b))) => if k = k' then int1 k (lor k a b) else .fail
  | .xor, .pv (.one (.val (.int k a))), .pv (.one (.val (.int k' b))) => if k = k' then int1 k (lxor k a b) else .fail
  | _, _, _ => exPure P ρ o

/-- Are two structs alike, field by field? -/
def eqFs (rec : TypeId → PV → PV → Option Bool) (P : Program) : List Field → List CV → List CV → Option Bool
  | [], _, _ => some true
  | f :: fs, l, m => match f.name == "_" with
    | true => none
    | false => match sizeT P f.type with
      | none => none
      | some n => match cut l f.offset n, cut m f.offset n with
        | some a, some b => match shapePV (aggT P f.type) a, shapePV (aggT P f.type) b with
          | some p, some q => match rec f.type p q, eqFs rec P fs l m with
            | some x, some y => some (x && y)
            | _, _ => none
          | _, _ => none
        | _, _ => none
def eqP (P : Program) : Nat → TypeId → PV → PV → Option Bool
  | 0, _, _, _ => none
  | d + 1, t, p, q => match P.underlying t, p, q with
    | some .bool, .one (.val (.bool a)), .one (.val (.bool b)) => some (a == b)
    | some (.int _), .one (.val (.int k a)), .one (.val (.int k' b)) => if k = k' then some (a == b) else none
    | some .string, .one (.val (.string a)), .one (.val (.string b)) => some (a == b)
    | some (.struct fs), .agg l, .agg m => match P.stoodInHeld t with | false => eqFs (eqP P d) P fs.toList l m | true => none
    | _, _, _ => none
def exEqA (P : Program) (t : TypeId) (l m : List CV) (f : Bool → Bool) : T Out :=
  match P.eqGuardType P.depth t with
  | true => .fail
  | false => match eqP P 8 t (.agg l) (.agg m) with
    | some r => .ret ⟨.pv (.one (.val (.bool (f r)))), []⟩
    | none => .fail
/-- Texts: alike, one ahead of the other; joined. -/
def sEq (a b : ByteArray) : Bool := a.toList == b.toList
def sLt (a b : ByteArray) : Bool := Op.bytesLess a.toList b.toList
def bool1 (b : Bool) : T Out := .ret ⟨.pv (.one (.val (.bool b))), []⟩
def exStr (op : BinOp) (a b : ByteArray) : T Out :=
  match op with
  | .add => .ite (decide (((a.size + b.size : Nat) : Int) > 9223372036854775807)) .fail (.ret ⟨.pv (.one (.val (.string (a ++ b)))), []⟩)
  | .eql => bool1 (sEq a b)
  | .neq => bool1 (!sEq a b)
  | .lss => bool1 (sLt a b)
  | .leq => bool1 (sLt a b || sEq a b)
  | .gtr => bool1 (!(sLt a b || sEq a b))
  | .geq => bool1 (!sLt a b)
  | _ => .fail
/-- Is it the address of something? -/
def isAddr : CV → Bool
  | .ptr .. => true
  | .rop .. => true
  | .mptr .. => true
  | _ => false
def exNilEq (P : Program) (ρ : Operand → SV) (o : Oper) (xt : TypeId) (c d : CV) (f : Bool → Bool) : T Out :=
  match P.underlying xt with
  | some (.pointer _) => match isAddr c, d with
    | true, .val (.pointer none) => bool1 (f false)
    | _, _ => exPure P ρ o
  | _ => exPure P ρ o
def exBinA (P : Program) (ρ : Operand → SV) (o : Oper) (op : BinOp) (xt : TypeId) (x y : Operand) : T Out :=
  match op, ρ x, ρ y with
  | .eql, .pv (.agg l), .pv (.agg m) => exEqA P xt l m id
  | .neq, .pv (.agg l), .pv (.agg m) => exEqA P xt l m not
  | op, .pv (.one (.val (.string a))), .pv (.one (.val (.string b))) => exStr op a b
  | .eql, .pv (.one c), .pv (.one (.val (.pointer none))) => exNilEq P ρ o xt c (.val (.pointer none)) id
  | .neq, .pv (.one c), .pv (.one (.val (.pointer none))) => exNilEq P ρ o xt c (.val (.pointer none)) not
  | _, _, _ => exBin P ρ o op x y

/-- The shape of a cell, for calls and loops. -/
inductive CP where
  | int (k : IntKind)
  | bool
  | str
  | row (k : IntKind) (own : Bool)
  | recs (ks : List IntKind) (own : Bool)
  | ro (l : List Sh)
  | grow (l : List Sh)
  | map (kk vk : List IntKind)
  | fn (f : FuncId)
  | nilp
  | pre (ks : List IntKind)
inductive PP where
  | one (c : CP)
  | agg (l : List CP)
  | ptr (l : List CP)
  | mptr (l : List Sh)
inductive U where
  | i (x : Int)
  | b (x : Bool)
  | s (x : ByteArray)
  | r (xs : List Int)
  | rr (xs : List (List Int))
  | d (x : List (List D))
  | ds (x : List D)
  | m (x : List (List Int × List Int))
  | n
abbrev Asg := Option (Nat × Nat × Nat)
/-- Reading a cell by its shape: what it holds, as it is to be told anew, and where its block lies. -/
def rdC (m : Nat → Option Ent) : CP → CV → Option (U × List (Asg × Bool))
  | .int k, .val (.int k' x) => if k = k' then some (.i x, []) else none
  | .bool, .val (.bool x) => some (.b x, [])
  | .str, .val (.string x) => some (.s x, [])
  | .row k o, .slf b => match m b with
    | some ⟨o', .row k' xs⟩ => if k = k' then (if o then (if o' then some (.r xs, [(some (b, 0, 1), true)]) else none) else some (.r xs, [(some (b, 0, 1), false)])) else none
    | _ => none
  | .row k o, .slc b off l => match m b with
    | some ⟨o', .row k' xs⟩ => if k = k' then (if o then (if o' then some (.r ((xs.drop off).take l), [(some (b, off, 1), true)]) else none) else some (.r ((xs.drop off).take l), [(some (b, off, 1), false)])) else none
    | _ => none
  | .row k o, .val (.slice none 0 0) => some (.r [], [(none, o)])
  | .recs ks o, .slf b => match m b with
    | some ⟨o', .recs ks' xs⟩ => if ks = ks' then (if o then (if o' then some (.rr xs, [(some (b, 0, len ks), true)]) else none) else some (.rr xs, [(some (b, 0, len ks), false)])) else none
    | _ => none
  | .recs ks o, .slc b off l => match m b with
    | some ⟨o', .recs ks' xs⟩ => if ks = ks' then (if o then (if o' then some (.rr ((xs.drop off).take l), [(some (b, off, len ks), true)]) else none) else some (.rr ((xs.drop off).take l), [(some (b, off, len ks), false)])) else none
    | _ => none
  | .recs ks o, .val (.slice none 0 0) => some (.rr [], [(none, o)])
  | .ro l, c => match toD m (.sl l) c with | some x => some (.d x.toL, []) | none => none
  | .grow l, .slf b => match m b with
    | some ⟨true, .grow l' xs⟩ => match shsEq l l' with | true => some (.d xs, [(some (b, 0, len l), true)]) | false => none
    | _ => none
  | .grow l, .val (.slice none 0 0) => some (.d [], [(none, true)])
  | .map kk vk, .mapr b => match m b with
    | some ⟨true, .map kk' vk' es⟩ => if kk = kk' ∧ vk = vk' then some (.m es, [(some (b, 0, 0), true)]) else none
    | _ => none
  | .fn f, .val (.func (.func f') ⟨[]⟩ ⟨[]⟩) => if f = f' then some (.n, []) else none
  | .nilp, .val (.pointer none) => some (.n, [])
  | .pre ks, .slc b off l => match off, m b with
    | 0, some ⟨true, .recs ks' xs⟩ => if ks = ks' then some (.rr ([(l : Int)] :: xs), [(some (b, 0, len ks), true)]) else none
    | _, _ => none
  | _, _ => none
def rdCs (m : Nat → Option Ent) : List CP → List CV → Option (List U × List (Asg × Bool))
  | [], [] => some ([], [])
  | p :: ps, c :: cs => match rdC m p c with
    | some (u, a) => match rdCs m ps cs with
      | some (us, as) => some (u :: us, a ++ as)
      | none => none
    | none => none
  | _, _ => none
def rdP (m : Nat → Option Ent) : PP → PV → Option (List U × List (Asg × Bool))
  | .one p, .one c => rdCs m [p] [c]
  | .agg ps, .agg cs => rdCs m ps cs
  | .ptr ps, .one (.ptr b 0 0 0) => match m b with
    | some ⟨true, .cells cs⟩ => match rdCs m ps cs with
      | some (us, as) => some (us, (some (b, 0, 0), true) :: as)
      | none => none
    | _ => none
  | .mptr l, .one (.mptr b 0 l') => match m b with
    | some ⟨true, .mem L ds⟩ => match shsEq l l' && shsEq L l with
      | true => some ([.ds ds], [(some (b, 0, 0), true)])
      | false => none
    | _ => none
  | _, _ => none
def rdPs (m : Nat → Option Ent) : List PP → List PV → Option (List U × List (Asg × Bool))
  | [], [] => some ([], [])
  | p :: ps, c :: cs => match rdP m p c with
    | some (u, a) => match rdPs m ps cs with
      | some (us, as) => some (u ++ us, a ++ as)
      | none => none
    | none => none
  | _, _ => none
/-- Making cells of a shape; the blocks of rows are named from q on. -/
def mkCs (q : Nat) : List CP → List U → Option (List CV × List Ent × List U)
  | [], us => some ([], [], us)
  | .int k :: ps, .i x :: us => match mkCs q ps us with | some (cs, es, r) => some (.val (.int k x) :: cs, es, r) | none => none
  | .bool :: ps, .b x :: us => match mkCs q ps us with | some (cs, es, r) => some (.val (.bool x) :: cs, es, r) | none => none
  | .str :: ps, .s x :: us => match mkCs q ps us with | some (cs, es, r) => some (.val (.string x) :: cs, es, r) | none => none
  | .row k o :: ps, .r x :: us => match mkCs (q + 1) ps us with | some (cs, es, r) => some (.slf q :: cs, ⟨o, .row k x⟩ :: es, r) | none => none
  | .recs k o :: ps, .rr x :: us => match mkCs (q + 1) ps us with | some (cs, es, r) => some (.slf q :: cs, ⟨o, .recs k x⟩ :: es, r) | none => none
  | .ro l :: ps, .d x :: us => match mkCs q ps us with | some (cs, es, r) => some (.ro l x :: cs, es, r) | none => none
  | .grow l :: ps, .d x :: us => match mkCs (q + 1) ps us with | some (cs, es, r) => some (.slf q :: cs, ⟨true, .grow l x⟩ :: es, r) | none => none
  | .map kk vk :: ps, .m x :: us => match mkCs (q + 1) ps us with | some (cs, es, r) => some (.mapr q :: cs, ⟨true, .map kk vk x⟩ :: es, r) | none => none
  | .fn f :: ps, .n :: us => match mkCs q ps us with | some (cs, es, r) => some (.val (.func (.func f) #[] #[]) :: cs, es, r) | none => none
  | .nilp :: ps, .n :: us => match mkCs q ps us with | some (cs, es, r) => some (.val (.pointer none) :: cs, es, r) | none => none
  | .pre k :: ps, .rr x :: us => match mkCs (q + 1) ps us with | some (cs, es, r) => some (.slc q 0 (nth 0 (nth [] x 0) 0).toNat :: cs, ⟨true, .recs k (x.drop 1)⟩ :: es, r) | none => none
  | _, _ => none
def mkP (q : Nat) : PP → List U → Option (PV × List Ent × List U)
  | .one p, us => match mkCs q [p] us with | some ([c], es, r) => some (.one c, es, r) | _ => none
  | .agg ps, us => match mkCs q ps us with | some (cs, es, r) => some (.agg cs, es, r) | none => none
  | .ptr ps, us => match mkCs (q + 1) ps us with | some (cs, es, r) => some (.one (.ptr q 0 0 0), ⟨true, .cells cs⟩ :: es, r) | none => none
  | .mptr l, .ds x :: us => some (.one (.mptr q 0 l), [⟨true, .mem l x⟩], us)
  | .mptr _, _ => none
def mkPs (q : Nat) : List PP → List U → Option (List PV × List Ent × List U)
  | [], us => some ([], [], us)
  | p :: ps, us => match mkP q p us with
    | some (v, es, r) => match mkPs (q + len es) ps r with
      | some (vs, es', r') => some (v :: vs, es ++ es', r')
      | none => none
    | none => none
/-- What is known of a function: the shapes of what it takes and answers, and the Lean function. -/
structure Spec where
  args : List PP
  res : List PP
  β : Type
  G : List U → Option β
  enc : β → List U
/-- An argument that is told by its data, by its cells. -/
def normP : PV → PV
  | .dat l ds => .agg (cvsL l ds 0)
  | p => p
def pvs : List SV → Option (List PV)
  | [] => some []
  | .pv p :: l => match pvs l with | some r => some (normP p :: r) | none => none
  | .tup _ :: _ => none
def entsUpd (q : Nat) : List Ent → List (Nat × Option Ent)
  | [] => []
  | e :: l => (q, some e) :: entsUpd (q + 1) l
/-- Blocks that were only read are owned no more; those that were owned are gone. -/
def shared : List (Asg × Bool) → (Nat → Option Ent) → List (Nat × Option Ent)
  | [], _ => []
  | (some (b, _, _), false) :: l, m => match m b with | some e => (b, some ⟨false, e.blk⟩) :: shared l m | none => shared l m
  | _ :: l, m => shared l m
def gone : List (Asg × Bool) → List (Nat × Option Ent)
  | [] => []
  | (some (b, _, _), true) :: l => (b, none) :: gone l
  | _ :: l => gone l
def anyRo : List Ent → Bool
  | [] => false
  | e :: l => match e.own with | false => true | true => anyRo l
/-- Is there anything in a shape that is told by its data? -/
def roCs : List CP → Bool
  | [] => false
  | .ro _ :: _ => true
  | .grow _ :: _ => true
  | _ :: l => roCs l
def roPs : List PP → Bool
  | [] => false
  | .one c :: l => match roCs [c] with | true => true | false => roPs l
  | .agg cs :: l => match roCs cs with | true => true | false => roPs l
  | .ptr cs :: l => match roCs cs with | true => true | false => roPs l
  | .mptr _ :: _ => true
def resSV : List PV → SV
  | [p] => .pv p
  | l => .tup l
/-- How many blocks a shape tells. -/
def entsC : CP → Nat
  | .row .. => 1
  | .recs .. => 1
  | .grow _ => 1
  | .map .. => 1
  | .pre _ => 1
  | _ => 0
def entsCs : List CP → Nat
  | [] => 0
  | c :: l => entsC c + entsCs l
def entsP : PP → Nat
  | .one c => entsC c
  | .agg l => entsCs l
  | .ptr l => 1 + entsCs l
  | .mptr _ => 1
def entsPs : List PP → Nat
  | [] => 0
  | p :: l => entsP p + entsPs l
/-- What comes in and is told anew behind the call: variables behind addresses, slices that are written, maps. -/
def isRoot : PP → Bool
  | .ptr _ => true
  | .mptr _ => true
  | .one (.row _ true) => true
  | .one (.recs _ true) => true
  | .one (.grow _) => true
  | .one (.map ..) => true
  | _ => false
def rootIds : Nat → List PP → List Nat
  | _, [] => []
  | q, p :: l => match isRoot p with | true => q :: rootIds (q + entsP p) l | false => rootIds (q + entsP p) l
def outsOf : List PP → List PP
  | [] => []
  | p :: l => match isRoot p with | true => p :: outsOf l | false => outsOf l
/-- What is to be frozen, so that it can be told by its data. -/
def frC : CP → CV → List Nat
  | .ro l, c => frD (.sl l) c
  | _, _ => []
def frCs : List CP → List CV → List Nat
  | p :: ps, c :: cs => frC p c ++ frCs ps cs
  | _, _ => []
def frP (m : Nat → Option Ent) : PP → PV → List Nat
  | .one p, .one c => frCs [p] [c]
  | .agg ps, .agg cs => frCs ps cs
  | .ptr ps, .one (.ptr b 0 0 0) => match m b with
    | some ⟨_, .cells cs⟩ => frCs ps cs
    | _ => []
  | _, _ => []
def frPs (m : Nat → Option Ent) : List PP → List PV → List Nat
  | p :: ps, c :: cs => frP m p c ++ frPs m ps cs
  | _, _ => []
/-- No block that is to be owned is named twice. -/
def inAsg (b : Nat) : List (Asg × Bool) → Bool
  | [] => false
  | (some (b', _, _), _) :: l => match b == b' with | true => true | false => inAsg b l
  | (none, _) :: l => inAsg b l
def ownIn (b : Nat) : List (Asg × Bool) → Bool
  | [] => false
  | (some (b', _, _), true) :: l => match b == b' with | true => true | false => ownIn b l
  | _ :: l => ownIn b l
def okAsg : List (Asg × Bool) → Bool
  | [] => true
  | (some (b, _, _), true) :: l => match inAsg b l with | true => false | false => okAsg l
  | (some (b, _, _), false) :: l => match ownIn b l with | true => false | false => okAsg l
  | (none, _) :: l => okAsg l
/-- Slices that are written, maps: all of a block each. -/
def rootsOk : List PP → List PV → Bool
  | p :: ps, c :: cs => match isRoot p, p, c with
    | true, .one _, .one (.slf _) => rootsOk ps cs
    | true, .one _, .one (.mapr _) => rootsOk ps cs
    | true, .one _, _ => false
    | _, _, _ => rootsOk ps cs
  | _, _ => true
/-- Where what came in is told anew. -/
def rootUpd (nid : Nat) (as : List (Asg × Bool)) (es : List Ent) : List Nat → List Nat → Option (List (Nat × Option Ent))
  | [], [] => some []
  | b :: bs, j :: js => match nth? as b, nth? es j with
    | some (some (c, 0, _), true), some e => match rootUpd nid as es bs js with
      | some r => some ((nid + j, none) :: (c, some e) :: r)
      | none => none
    | _, _ => none
  | _, _ => none
def takeL {α : Type} : Nat → List α → List α
  | 0, _ => []
  | _ + 1, [] => []
  | n + 1, a :: l => a :: takeL n l
def shIf (b : Bool) (l : List (Nat × Option Ent)) : List (Nat × Option Ent) := match b with | true => l | false => []
def exCall (sp : Option Spec) (args : List SV) (μ : Nat → Option Ent) (nid : Nat) : T Out :=
  match sp with
  | none => .fail
  | some sp => match pvs args with
    | none => .fail
    | some ps => match rdPs (updM μ (frz μ (frPs μ sp.args ps))) sp.args ps with
      | none => .fail
      | some (us, as) => match okAsg as && rootsOk sp.args ps with
        | false => .fail
        | true => .bnd (sp.G us) fun r => match mkPs nid (sp.res ++ outsOf sp.args) (sp.enc r) with
          | some (vs, es, []) => if len es ≤ 64 then (match rootUpd nid as es (rootIds 0 sp.args) (rootIds (entsPs sp.res) (outsOf sp.args)) with
            | some ru => .ret ⟨resSV (takeL (len sp.res) vs), frz μ (frPs μ sp.args ps) ++ (gone as ++ (entsUpd nid es ++ (ru ++ shIf (anyRo es || roPs (sp.res ++ outsOf sp.args)) (shared as (updM μ (frz μ (frPs μ sp.args ps)))))))⟩
            | none => .fail) else .fail
          | _ => .fail
/-- The kinds of a type's cells, all whole numbers whose zero value is 0. -/
def kinds0 : List Value → Option (List IntKind)
  | [] => some []
  | .int k z :: l => if z = 0 then (match kinds0 l with | some r => some (k :: r) | none => none) else none
  | _ :: _ => none
inductive EK where
  | one (k : IntKind)
  | recs (ks : List IntKind)
  | grow (l : List Sh)
def zeroD : Sh → D
  | .int _ => .i 0
  | .bool => .b false
  | .str => .s ⟨#[]⟩
  | .sl _ => .l []
def zeroDs : List Sh → List D
  | [] => []
  | h :: l => zeroD h :: zeroDs l
def isZero : Sh → Value → Bool
  | .int k, .int k' x => if k = k' ∧ x = 0 then true else false
  | .bool, .bool false => true
  | .str, .string ⟨⟨[]⟩⟩ => true
  | .sl _, .slice none 0 0 => true
  | _, _ => false
def growK (P : Program) (e : TypeId) (size : Nat) (cs : List Value) : Option EK :=
  match lay P 8 e with
  | some l => match allEq2 isZero l cs with
    | true => if size = len l ∧ len l ≠ 0 then some (.grow l) else none
    | false => none
  | none => none
def elemK (P : Program) (e : TypeId) : Option EK :=
  match P.info? e with
  | some i => if i.bytes ≤ 128 ∧ i.bytes ≠ 0 then (match i.zero with
    | some (.int k z) => if z = 0 ∧ i.size = 1 then some (.one k) else none
    | some (.agg cs) => match kinds0 cs.toList with
      | some ks => if i.size = len ks ∧ len ks ≠ 0 then some (.recs ks) else none
      | none => growK P e i.size cs.toList
    | some (.string b) => growK P e i.size [.string b]
    | some (.bool b) => growK P e i.size [.bool b]
    | some (.slice a x y) => growK P e i.size [.slice a x y]
    | _ => none) else none
  | none => none
def EK.n : EK → Nat
  | .one _ => 1
  | .recs ks => len ks
  | .grow l => len l
/-- How many members of so many bytes memory surely bears. -/
def room (b : Nat) : Nat := if b = 8 then 17592186044416 else if b ≤ 16 then 8796093022208 else 140737488355328 / b
def roomT (P : Program) (e : TypeId) : Nat := match P.info? e with | some i => room i.bytes | none => 0
def zeroB (n : Nat) : EK → Blk
  | .one k => .row k (List.replicate n 0)
  | .recs ks => .recs ks (List.replicate n (List.replicate (len ks) 0))
  | .grow l => .grow l (List.replicate n (zeroDs l))
def exMakeSlice (P : Program) (nid : Nat) (t : TypeId) (l c : SV) : T Out :=
  match l, c, elemT P t with
  | .pv (.one (.val (.int _ x))), .pv (.one (.val (.int _ y))), some e => match elemK P e with
    | some ek => T.req (decide (0 ≤ x) && decide (x ≤ y) && decide (y ≤ (roomT P e : Int))) (.ret ⟨.pv (.one (.slf nid)), [(nid, some ⟨true, zeroB x.toNat ek⟩)]⟩)
    | none => .fail
  | _, _, _ => .fail
def rowL (k : IntKind) (ρ : Operand → SV) : List (Nat × Operand) → Nat → Option (List Int)
  | [], _ => some []
  | (i, x) :: l, q => if i = q then (match ρ x with
    | .pv (.one (.val (.int k' v))) => if k = k' then (match rowL k ρ l (q + 1) with | some r => some (v :: r) | none => none) else none
    | _ => none) else none
def recL (ks : List IntKind) (ρ : Operand → SV) : List (Nat × Operand) → Nat → Option (List (List Int))
  | [], _ => some []
  | (i, x) :: l, q => if i = q then (match ρ x with
    | .pv (.agg vs) => match intsOf ks vs with
      | some r => match recL ks ρ l (q + 1) with | some rs => some (r :: rs) | none => none
      | none => none
    | _ => none) else none
/-- Rows of cells, one behind the other, as data. -/
def growL (μ : Nat → Option Ent) (l : List Sh) (ρ : Operand → SV) : List (Nat × Operand) → Nat → Option (List (List D))
  | [], _ => some []
  | (i, x) :: r, q => if i = q then (match ρ x with
    | .pv p => match okPV p, toDs μ l (cellsPV p) with
      | true, some ds => match growL μ l ρ r (q + 1) with | some rs => some (ds :: rs) | none => none
      | _, _ => none
    | _ => none) else none
def growFr (l : List Sh) (ρ : Operand → SV) : List (Nat × Operand) → List Nat
  | [] => []
  | (_, x) :: r => (match ρ x with | .pv p => frDs l (cellsPV p) | _ => []) ++ growFr l ρ r
def exBuildSlice (P : Program) (ρ : Operand → SV) (μ : Nat → Option Ent) (nid : Nat) (t : TypeId) (n : Nat) (parts : Array (Nat × Operand)) : T Out :=
  if len parts.toList = n ∧ n ≤ 4096 then (match elemT P t with
    | some e => match elemK P e with
      | some (.one k) => match rowL k ρ parts.toList 0 with
        | some r => .ret ⟨.pv (.one (.slf nid)), [(nid, some ⟨true, .row k r⟩)]⟩
        | none => .fail
      | some (.recs ks) => match recL ks ρ parts.toList 0, decide (n * len ks ≤ 16777216) with
        | some r, true => .ret ⟨.pv (.one (.slf nid)), [(nid, some ⟨true, .recs ks r⟩)]⟩
        | _, _ => .fail
      | some (.grow l) => match growL (updM μ (frz μ (growFr l ρ parts.toList))) l ρ parts.toList 0, decide (n * len l ≤ 16777216) with
        | some r, true => .ret ⟨.pv (.one (.slf nid)), frz μ (growFr l ρ parts.toList) ++ [(nid, some ⟨true, .grow l r⟩)]⟩
        | _, _ => .fail
      | none => .fail
    | none => .fail) else .fail
def boundV (ρ : Operand → SV) (d : Int) : Option Operand → Option Int
  | none => some d
  | some x => match ρ x with | .pv (.one (.val (.int _ v))) => some v | _ => none
def exSlice (P : Program) (ρ : Operand → SV) (μ : Nat → Option Ent) (t : TypeId) (x : SV) (lo hi mx : Option Operand) : T Out :=
  match mx, x, P.underlying t with
  | none, .pv (.one (.val (.string s))), some .string => match boundV ρ 0 lo, boundV ρ (s.size : Int) hi with
    | some l, some h => T.req (decide (0 ≤ l) && decide (l ≤ h) && decide (h ≤ (s.size : Int))) (ret1 (.pv (.one (.val (.string (s.extract l.toNat h.toNat))))))
    | _, _ => .fail
  | none, .pv (.one (.slf b)), some (.slice e) => match μ b, sizeT P e with
    | some ent, some sz => if ent.blk.n = sz then (match boundV ρ 0 lo, boundV ρ (ent.blk.len : Int) hi with
      | some l, some h => T.req (decide (0 ≤ l) && decide (l ≤ h) && decide (h ≤ (ent.blk.len : Int))) (ret1 (.pv (.one (.slc b l.toNat (h.toNat - l.toNat)))))
      | _, _ => .fail) else .fail
    | _, _ => .fail
  | none, .pv (.one (.slc b off n)), some (.slice e) => match μ b, sizeT P e with
    | some ent, some sz => if ent.blk.n = sz then (match boundV ρ 0 lo, boundV ρ (n : Int) hi with
      | some l, some h => T.req (decide (0 ≤ l) && decide (l ≤ h) && decide ((off : Int) + h ≤ (ent.blk.len : Int))) (ret1 (.pv (.one (.slc b (off + l.toNat) (h.toNat - l.toNat)))))
      | _, _ => .fail) else .fail
    | _, _ => .fail
  | none, .pv (.one (.ro h xs)), some (.slice e) => match sizeT P e with
    | some sz => if len h = sz then (match boundV ρ 0 lo, boundV ρ (xs.length : Int) hi with
      | some l, some r => T.req (decide (0 ≤ l) && decide (l ≤ r) && decide (r ≤ (xs.length : Int))) (ret1 (.pv (.one (.ro h ((xs.drop l.toNat).take (r.toNat - l.toNat))))))
      | _, _ => .fail) else .fail
    | none => .fail
  | _, _, _ => .fail
/-- What a slice holds. -/
def rowOf (m : Nat → Option Ent) : CV → Option Blk
  | .slf b => match m b with | some e => some e.blk | none => none
  | .slc b off l => match m b with
    | some ⟨_, .row k xs⟩ => some (.row k ((xs.drop off).take l))
    | some ⟨_, .recs ks xs⟩ => some (.recs ks ((xs.drop off).take l))
    | some ⟨_, .grow h xs⟩ => some (.grow h ((xs.drop off).take l))
    | _ => none
  | .ro h xs => some (.grow h xs)
  | _ => none
/-- Rows of data as a block of a kind. -/
def asEK : EK → Blk → Option Blk
  | .one k, .row k' xs => if k = k' then some (.row k xs) else none
  | .recs ks, .recs ks' xs => if ks = ks' then some (.recs ks xs) else none
  | .grow l, .grow l' xs => match shsEq l l' with | true => some (.grow l xs) | false => none
  | .one k, .grow l xs => match shsEq l [.int k] with | true => some (.row k (xs.map fun r => (nth d0 r 0).toI)) | false => none
  | .recs ks, .grow l xs => match shsEq l (shInts ks) with | true => some (.recs ks (xs.map fun r => toIs ks r 0)) | false => none
  | _, _ => none
def catB : Blk → Blk → Option Blk
  | .row k xs, .row k' ys => if k = k' then some (.row k (xs ++ ys)) else none
  | .recs k xs, .recs k' ys => if k = k' then some (.recs k (xs ++ ys)) else none
  | .grow l xs, .grow l' ys => match shsEq l l' with | true => some (.grow l (xs ++ ys)) | false => none
  | _, _ => none
def isEK : EK → Blk → Bool
  | .one k, .row k' _ => if k = k' then true else false
  | .recs k, .recs k' _ => if k = k' then true else false
  | .grow l, .grow l' _ => shsEq l l'
  | _, _ => false
def isSliceT (P : Program) (t : TypeId) : Bool := match P.underlying t with | some (.slice _) => true | _ => false
def exAppend (P : Program) (μ : Nat → Option Ent) (nid : Nat) (t t2 : TypeId) (s x : SV) : T Out :=
  match elemT P t, isSliceT P t2 with
  | some e, true => match elemK P e with
    | some ek => match s, x with
      | .pv (.one (.slf b)), .pv (.one c) => match μ b, rowOf μ c with
        | some ⟨true, bs⟩, some by0 => match isEK ek bs, asEK ek by0 with
          | true, some bx => match catB bs bx with
            | some bc => T.req (decide (bs.len + bx.len ≤ roomT P e)) (.ret ⟨.pv (.one (.slf nid)), [(b, none), (nid, some ⟨true, bc⟩)]⟩)
            | none => .fail
          | _, _ => .fail
        | _, _ => .fail
      | .pv (.one (.val (.slice none 0 0))), .pv (.one c) => match rowOf μ c with
        | some by0 => match asEK ek by0 with
          | some bx => T.req (decide (bx.len ≤ roomT P e)) (.ret ⟨.pv (.one (.slf nid)), [(nid, some ⟨true, bx⟩)]⟩)
          | none => .fail
        | none => .fail
      | _, _ => .fail
    | none => .fail
  | _, _ => .fail
def exLen (P : Program) (ρ : Operand → SV) (μ : Nat → Option Ent) (o : Oper) (t : TypeId) (x : SV) : T Out :=
  match x, P.underlying t with
  | .pv (.one (.slf b)), some (.slice _) => match μ b with | some e => int1 .i64 (e.blk.len : Int) | none => .fail
  | .pv (.one (.slc b _ l)), some (.slice _) => match μ b with | some e => int1 .i64 (l : Int) | none => .fail
  | .pv (.one (.ro _ xs)), some (.slice _) => int1 .i64 (xs.length : Int)
  | _, _ => exPure P ρ o
/-- A text out of bytes. -/
def strOf (xs : List Int) : ByteArray := ⟨(xs.map fun n => UInt8.ofNat n.toNat).toArray⟩
def isBytesT (P : Program) (src dst : TypeId) : Bool := match P.underlying dst, P.underlying src with
  | some .string, some (.slice e) => match P.underlying e with | some (.int .u8) => true | _ => false
  | _, _ => false
/-- Bytes out of a text. -/
def bytesI (s : ByteArray) : List Int := s.data.toList.map fun b => (b.toNat : Int)
def toBytesT (P : Program) (src dst : TypeId) : Bool := match P.underlying src, P.underlying dst with
  | some .string, some (.slice e) => match P.underlying e with | some (.int .u8) => true | _ => false
  | _, _ => false
/-- Bytes turned into what they are (a text's literal). -/
def sameBytesT (P : Program) (src dst : TypeId) : Bool := match src == dst, P.underlying src with
  | true, some (.slice e) => match P.underlying e with | some (.int .u8) => true | _ => false
  | _, _ => false
def exSame (P : Program) (μ : Nat → Option Ent) (src dst : TypeId) : CV → T Out
  | .slf b => match μ b with
    | some ⟨true, .row .u8 (y :: ys)⟩ => match sameBytesT P src dst with
      | true => .ret ⟨.pv (.one (.slf b)), [(b, some ⟨true, .row .u8 (y :: ys)⟩)]⟩
      | false => .fail
    | _ => .fail
  | _ => .fail
def exConv (P : Program) (ρ : Operand → SV) (μ : Nat → Option Ent) (nid : Nat) (o : Oper) (src dst : TypeId) (x : SV) : T Out :=
  match x with
  | .pv (.one (.val (.string s))) => match toBytesT P src dst with
    | true => .ret ⟨.pv (.one (.slf nid)), [(nid, some ⟨true, .row .u8 (bytesI s)⟩)]⟩
    | false => exPure P ρ o
  | .pv (.one c) => match rowOf μ c with
    | some (.row .u8 xs) => match isBytesT P src dst with
      | true => ret1 (.pv (.one (.val (.string (strOf xs)))))
      | false => exSame P μ src dst c
    | _ => exPure P ρ o
  | _ => exPure P ρ o
/-- Maps by the numbers of their keys. -/
def mfind : List (List Int × List Int) → List Int → Option (List Int)
  | [], _ => none
  | (k, v) :: l, q => if k = q then some v else mfind l q
def mget (es : List (List Int × List Int)) (k : List Int) (z : List Int) : List Int := match mfind es k with | some v => v | none => z
def mhas (es : List (List Int × List Int)) (k : List Int) : Bool := match mfind es k with | some _ => true | none => false
def mset : List (List Int × List Int) → List Int → List Int → List (List Int × List Int)
  | [], q, x => [(q, x)]
  | (k, v) :: l, q, x => if k = q then (k, x) :: l else (k, v) :: mset l q x
/-- The kinds of a type that is made of whole numbers alone, no part of it nameless: one of them, or a struct of some. -/
def flatKs (P : Program) : List Field → Nat → Option (List IntKind)
  | [], _ => some []
  | f :: l, o => if f.offset = o then (match f.name == "_", P.underlying f.type, sizeT P f.type with
    | false, some (.int k), some 1 => match flatKs P l (o + 1) with | some r => some (k :: r) | none => none
    | _, _, _ => none) else none
def mapK (P : Program) (t : TypeId) : Option (List IntKind) :=
  match P.underlying t, P.info? t with
  | some (.int k), some i => if i.size = 1 then some [k] else none
  | some (.struct fs), some i => match flatKs P fs.toList 0, P.stoodInHeld t with
    | some ks, false => if i.size = len ks ∧ len ks ≠ 0 then some ks else none
    | _, _ => none
  | _, _ => none
/-- The kinds of a map's keys or values: a number alone, or a struct of two and more. -/
def keyK (P : Program) (t : TypeId) : Option (List IntKind) := match mapK P t with
  | some kk => match P.underlying t, kk with
    | some (.int _), [k] => some [k]
    | some (.struct _), k :: k' :: ks => some (k :: k' :: ks)
    | _, _ => none
  | none => none
def zeroKK (P : Program) (t : TypeId) (ks : List IntKind) : Bool :=
  match P.info? t with
  | some i => match i.zero, ks with
    | some (.int k z), [k'] => decide (k = k' ∧ z = 0)
    | some (.agg cs), k :: k' :: r => (match kinds0 cs.toList with | some ks' => decide (k :: k' :: r = ks') | none => false)
    | _, _ => false
  | none => false
def keyOfP (kk : List IntKind) : PV → Option (List Int)
  | .one c => match kk with | [k] => intsOf [k] [c] | _ => none
  | .agg l => match kk with | k :: k' :: r => intsOf (k :: k' :: r) l | _ => none
  | _ => none
def pvK (vk : List IntKind) (x : List Int) : PV := match vk with
  | [k] => .one (.val (.int k (nth 0 x 0)))
  | _ => .agg (intsV vk x 0)
def exMakeMap (P : Program) (nid : Nat) (t : TypeId) : T Out :=
  match P.underlying t with
  | some (.map kt vt) => match keyK P kt, keyK P vt with
    | some kk, some vk => .ret ⟨.pv (.one (.mapr nid)), [(nid, some ⟨true, .map kk vk []⟩)]⟩
    | _, _ => .fail
  | _ => .fail
def exLookup (P : Program) (μ : Nat → Option Ent) (t : TypeId) (x ix : SV) (ok : Bool) : T Out :=
  match P.underlying t, x, ix with
  | some (.map kt vt), .pv (.one (.mapr b)), .pv kp => match μ b with
    | some ⟨_, .map kk vk es⟩ => if keyK P kt = some kk ∧ keyK P vt = some vk ∧ zeroKK P vt vk = true then (match keyOfP kk kp with
      | some q => match ok with
        | true => .ret ⟨.tup [pvK vk (mget es q (rep (len vk) 0)), .one (.val (.bool (mhas es q)))], []⟩
        | false => ret1 (.pv (pvK vk (mget es q (rep (len vk) 0))))
      | none => .fail) else .fail
    | _ => .fail
  | _, _, _ => .fail
def exMapUpdate (P : Program) (μ : Nat → Option Ent) (t : TypeId) (x ix v : SV) : T Out :=
  match P.underlying t, x, ix, v with
  | some (.map kt vt), .pv (.one (.mapr b)), .pv kp, .pv vp => match μ b with
    | some ⟨true, .map kk vk es⟩ => if keyK P kt = some kk ∧ keyK P vt = some vk then (match keyOfP kk kp, keyOfP vk vp with
      | some q, some r => ret0 [(b, some ⟨true, .map kk vk (mset es q r)⟩)]
      | _, _ => .fail) else .fail
    | _ => .fail
  | _, _, _, _ => .fail
/-- What is known of a function is kept apart by whether it is called of a nil pointer. -/
def hasRo : List CV → Bool
  | [] => false
  | .ro .. :: _ => true
  | _ :: l => hasRo l
def vkey (env : FuncId → Option Spec) (f : FuncId) (args : List SV) : Nat := match args with
  | .pv (.one (.val (.pointer none))) :: _ => f + 1000000
  | .pv (.one (.ro ..)) :: _ => match env (f + 1000000) with | some _ => f + 1000000 | none => f
  | .pv (.dat ..) :: _ => match env (f + 1000000) with | some _ => f + 1000000 | none => f
  | .pv (.agg cs) :: _ => match hasRo cs with
    | true => match env (f + 1000000) with | some _ => f + 1000000 | none => f
    | false => f
  | _ => f
def exCallF (env : FuncId → Option Spec) (f : FuncId) (args : List SV) (μ : Nat → Option Ent) (nid : Nat) : T Out :=
  if f < 1000000 then exCall (env (vkey env f args)) args μ nid else .fail
def exOp (P : Program) (env : FuncId → Option Spec) (ρ : Operand → SV) (μ : Nat → Option Ent) (nid : Nat) (o : Oper) : T Out :=
  match o.op with
  | .move x | .assign x => ret1 (ρ x)
  | .pick c a b => match ρ c with
    | .pv (.one (.val (.bool t))) => .ite t (ret1 (ρ a)) (ret1 (ρ b))
    | _ => .fail
  | .alloc t => exAlloc P nid t
  | .box t x => exBox P nid t (ρ x)
  | .build t parts => exBuild P ρ t parts
  | .buildSlice t n parts => exBuildSlice P ρ μ nid t n parts
  | .field t x i => exField P t (ρ x) i
  | .load t x => exLoad P μ t (ρ x)
  | .store t a x => exStore P μ t (ρ a) (ρ x)
  | .fieldAddr t x i => exFieldAddr P t (ρ x) i
  | .indexAddr t x ix => exIndexAddr P μ t (ρ x) (ρ ix)
  | .index t x ix => exIndex P t (ρ x) (ρ ix)
  | .extract x i => exExtract (ρ x) i
  | .binOp op xt x y _ => exBinA P ρ o op xt x y
  | .makeSlice t l c => exMakeSlice P nid t (ρ l) (ρ c)
  | .slice t x lo hi mx => exSlice P ρ μ t (ρ x) lo hi mx
  | .call { callee := .value x, args, .. } => match ρ x with
    | .pv (.one (.val (.func (.func f) ⟨[]⟩ ⟨[]⟩))) => exCallF env f (args.toList.map ρ) μ nid
    | _ => .fail
  | .call { callee := .builtin .len, args := ⟨[x]⟩, argTypes := ⟨[t]⟩ } => exLen P ρ μ o t (ρ x)
  | .call { callee := .builtin .append, args := ⟨[s, x]⟩, argTypes := ⟨[t, t2]⟩ } => exAppend P μ nid t t2 (ρ s) (ρ x)
  | .call { callee := .builtin .max, .. } => exPure P ρ o
  | .call { callee := .builtin .min, .. } => exPure P ρ o
  | .unOp op _ x => exUn P ρ o op x
  | .nilCheck x => match ρ x with
    | .pv (.one c) => match isAddr c with | true => ret1 (.pv (.one c)) | false => .fail
    | _ => .fail
  | .makeInterface .. => exPure P ρ o
  | .makeFunc .. => exPure P ρ o
  | .typeAssert .. => exPure P ρ o
  | .convert src dst x => exConv P ρ μ nid o src dst (ρ x)
  | .makeMap t none => exMakeMap P nid t
  | .lookup t x ix ok => exLookup P μ t (ρ x) (ρ ix) ok
  | .mapUpdate t x ix v => exMapUpdate P μ t (ρ x) (ρ ix) (ρ v)
  | _ => .fail

/-- One operation, its guard looked at. -/
def slotOf (ops : List Oper) (g : Nat) : Option Tmp := match nth? ops g with | some o => o.dst | none => none
def run1 (P : Program) (env : FuncId → Option Spec) (nid : Nat) (o : Oper) (s : St) : T St :=
  (exOp P env s.ev s.mem nid o).bind fun r => .ret (s.app o.dst r)
def skip1 (o : Oper) (s : St) : St := s.app o.dst ⟨undefS, []⟩
def St.lit (s : St) (t : Tmp) (b : Bool) : St := { s with tmps := put s.tmps t (.pv (.one (.val (.bool b)))) }
def step1 (P : Program) (env : FuncId → Option Spec) (ops : List Oper) (nid : Nat) (o : Oper) (s : St) : T St :=
  match o.guard with
  | none => run1 P env nid o s
  | some (g, want) => match slotOf ops g with
    | some t => match nth undefS s.tmps t with
      | .pv (.one (.val (.bool c))) => match want with
        | true => .ite c (run1 P env nid o (s.lit t true)) (.ret (skip1 o (s.lit t false)))
        | false => .ite c (.ret (skip1 o (s.lit t true))) (run1 P env nid o (s.lit t false))
      | .pv (.one (.val (.tuple ⟨[]⟩))) => .ret (skip1 o s)
      | _ => .fail
    | none => .fail
def runL (P : Program) (env : FuncId → Option Spec) (ops : List Oper) (nx : Nat) : List Oper → Nat → St → T St
  | [], i, s => .ret { s with nx := nx + 64 * i }
  | o :: l, i, s => (step1 P env ops (nx + 64 * i) o s).bind (runL P env ops nx l (i + 1))
end Go.Proofs.Ytmmaechogibodaa.Vm
