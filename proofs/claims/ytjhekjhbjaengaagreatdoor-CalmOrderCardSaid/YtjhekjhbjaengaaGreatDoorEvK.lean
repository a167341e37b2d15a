/- A second evaluator, for the kernel: values with marks for what is not known in numbers, small definitions, states as tries; a run is a proposition: what is owed. Definitions. -/
import Derived.Test.YtjhekjhbjaengaaGreatDoorEvF
namespace Go.Proofs.YtjhekjhbjaengaaGreatDoor.Ev
open Go
noncomputable section

/-- A binary trie. -/
inductive T (α : Type) where
  | leaf
  | node (x : Option α) (l r : T α)
namespace T
variable {α : Type}
def get (p : List Bool) : T α → Option α :=
  List.rec (motive := fun _ => T α → Option α) (fun t => T.casesOn t none fun x _ _ => x) (fun b _ ih t => T.casesOn t none fun _ l r => Bool.rec (ih l) (ih r) b) p
def put (a : Option α) (p : List Bool) : T α → T α :=
  List.rec (motive := fun _ => T α → T α) (fun t => T.casesOn t (.node a .leaf .leaf) fun _ l r => .node a l r)
    (fun b _ ih t => T.casesOn t (Bool.rec (.node none (ih .leaf) .leaf) (.node none .leaf (ih .leaf)) b) fun x l r => Bool.rec (.node x (ih l) r) (.node x l (ih r)) b) p
end T
def pathF : Nat → Nat → List Bool
  | 0, _ => []
  | f + 1, i => bif Nat.ble i 1 then [] else (Nat.beq (i % 2) 1) :: pathF f (i / 2)
/-- Where a number's entry lies. -/
def path (i : Nat) : List Bool := pathF (i + 1) (i + 1)

def nth {α : Type} (l : List α) : Nat → Option α :=
  List.rec (motive := fun _ => Nat → Option α) (fun _ => none) (fun x _ ih i => Nat.rec (some x) (fun m _ => ih m) i) l

inductive XV where
  | v (x : Value)
  | s (x : Value)
  | agg (l : List XV)
  | tup (l : List XV)
  | fsl (l : List (List XV))
  | ol (l : List (List XV))
  | e0
  | sl (b k off len : Nat)
  | ptr (b k i j : Nat)
  | fptr (l : List XV) (j : Nat)
  | ifc (t : TypeId) (x : XV)
  | fn (f : FuncId) (cap : List XV)
  deriving Inhabited
/-- A block; op: its row is not known element by element. -/
structure XB where
  k : Nat
  rw : Bool
  els : List (List XV)
  op : Bool
structure XS where
  t : T XV
  h : T XB
  n : Nat

mutual
/-- What a value stands for: numbers of blocks under ι; what is only read leads to none of them. -/
def er : XV → (Nat → Nat) → AV
  | .v x, _ => .v x
  | .s x, _ => .v x
  | .agg l, ι => .agg (erL l ι)
  | .tup l, ι => .tup (erL l ι)
  | .fsl l, _ => .fsl (erLL l id)
  | .ol l, _ => .fsl (erLL l id)
  | .e0, _ => .e0
  | .sl b k o n, ι => .sl (ι b) k o n
  | .ptr b k i j, ι => .ptr (ι b) k i j
  | .fptr l j, _ => .fptr (erL l id) j
  | .ifc t x, ι => .ifc t (er x ι)
  | .fn f l, ι => .fn f (erL l ι)
def erL : List XV → (Nat → Nat) → List AV
  | [], _ => []
  | x :: l, ι => er x ι :: erL l ι
def erLL : List (List XV) → (Nat → Nat) → List (List AV)
  | [], _ => []
  | x :: l, ι => erL x ι :: erLL l ι
end
mutual
/-- All numbers of blocks in it are less than n. -/
def lo (n : Nat) : XV → Prop
  | .agg l => loL n l
  | .tup l => loL n l
  | .sl b _ _ _ => b < n
  | .ptr b _ _ _ => b < n
  | .ifc _ x => lo n x
  | .fn _ l => loL n l
  | _ => True
def loL (n : Nat) : List XV → Prop
  | [] => True
  | x :: l => lo n x ∧ loL n l
end
def loLL (n : Nat) : List (List XV) → Prop
  | [] => True
  | x :: l => loL n x ∧ loLL n l
def erB (ι : Nat → Nat) (b : XB) : Blk := ⟨b.k, b.rw, bif b.op then erLL b.els id else erLL b.els ι⟩
def loB (n : Nat) (b : XB) : Prop := b.op = true ∨ loLL n b.els
/-- A state stands for one of the first evaluator's; D: which numbers are in use or were; m: the least number not yet taken there. -/
structure XRel (D : Nat → Prop) (ι : Nat → Nat) (m : Nat) (s : XS) (a : AS) : Prop where
  t : ∀ i x, s.t.get (path i) = some x → a.t[i]? = some (er x ι) ∧ lo s.n x
  h : ∀ b x, s.h.get (path b) = some x → b < s.n ∧ a.h[ι b]? = some (some (erB ι x)) ∧ loB s.n x
  dom : ∀ b x, s.h.get (path b) = some x → D b
  dlt : ∀ b, D b → b < s.n
  inj : ∀ b c, D b → D c → ι b = ι c → b = c
  lt : ∀ b, D b → ι b < m
  le : m ≤ a.h.length

def xconst : Value → XV
  | .agg cs => if cs.all (·.oneCell') then .agg (cs.toList.map .v) else .v (.agg cs)
  | x => .v x
def xev (t : T XV) : Operand → Option XV
  | .tmp i => t.get (path i)
  | .const x => some (xconst x)
  | .global g => some (.v (.pointer (some ⟨g, 0, none⟩)))
  | .func f => some (.fn f [])

def XV.flat : XV → Bool
  | .agg _ | .tup _ => false
  | .v x => x.oneCell'
  | .s x => x.oneCell'
  | _ => true
def XV.cells? : XV → Option (List XV)
  | .agg l => some l
  | x => bif x.flat then some [x] else none
/-- Does a value lead to no block of one's own, at a look? -/
def fzc : XV → Bool
  | .v _ | .s _ | .fsl _ | .ol _ | .e0 | .fptr _ _ => true
  | _ => false
def fz : Nat → XV → Bool
  | 0, _ => false
  | d + 1, x => match x with
    | .v _ | .s _ | .fsl _ | .ol _ | .e0 | .fptr _ _ => true
    | .agg l | .tup l => l.all (fz d)
    | .ifc _ y => fz d y
    | .fn _ l => l.all (fz d)
    | _ => false

def xcut (P : Program) (t : TypeId) (e : List XV) (j : Nat) : Option XV :=
  match tagg P t with
  | some true => match tsize P t with
    | some n => bif Nat.ble (j + n) e.length then some (.agg ((e.drop j).take n)) else none
    | none => none
  | some false => nth e j
  | none => none
/-- The same, of what is only read. -/
def xcutF (P : Program) (t : TypeId) (e : List XV) (j : Nat) : Option XV :=
  match xcut P t e j with
  | some x => bif fz 2 x then some x else none
  | none => none

def xnat : XV → Option Nat
  | .v (.int _ (.ofNat i)) => some i
  | _ => none
/-- A number or the like: what it is, and whether that is not known. -/
def xplainL : List XV → Option (List Value × Bool)
  | [] => some ([], false)
  | .v x :: l => match xplainL l with
    | some (m, b) => some (x :: m, b)
    | none => none
  | .s x :: l => match xplainL l with
    | some (m, _) => some (x :: m, true)
    | none => none
  | _ :: _ => none
def xplain : XV → Option (Value × Bool)
  | .v x => some (x, false)
  | .s x => some (x, true)
  | .agg l => match xplainL l with
    | some (m, b) => some (.agg m.toArray, b)
    | none => none
  | _ => none
def xofVal (sym : Bool) : Value → XV
  | .agg cs => bif cs.all (·.oneCell') then .agg (cs.toList.map fun x => bif sym then .s x else .v x) else .v (.agg cs)
  | x => bif sym then .s x else .v x

/-- What an operation comes to: its value, what it writes, what it read, is the next number taken. -/
structure XR where
  x : XV
  ws : List (Nat × Option XB)
  rs : List Nat
  nw : Bool
def XR.of (x : XV) : Option XR := some ⟨x, [], [], false⟩
def XR.opt : Option XV → Option XR
  | some x => some ⟨x, [], [], false⟩
  | none => none

section
variable (P : Program)

def xrho (t : T XV) (x : Operand) : Value := match (xev t x).bind xplain with | some (y, _) => y | none => undef
def xscalar (o : Oper) (t : T XV) : Option XR :=
  bif o.op.operands.toList.all fun x => ((xev t x).bind xplain).isSome then
    match runP P (execOp (xrho t) o) with
    | some (.value r) => XR.of (xofVal (o.op.operands.toList.any fun x => match (xev t x).bind xplain with | some (_, b) => b | none => false) r)
    | _ => none
  else none
def fwrap (k : IntKind) : Int → Int
  | .ofNat n => bif Nat.blt n 128 then .ofNat n else k.wrap (.ofNat n)
  | .negSucc n => k.wrap (.negSucc n)
/-- A few operations on whole numbers, told fast. -/
def xint (op : BinOp) (k : IntKind) (a b : Int) : Option Value :=
  match op with
  | .add => some (.int k (k.wrap (a + b)))
  | .sub => some (.int k (k.wrap (a - b)))
  | .mul => some (.int k (k.wrap (a * b)))
  | .eql => some (.bool (a == b))
  | .neq => some (.bool (a != b))
  | .lss => some (.bool (a < b))
  | .leq => some (.bool (a ≤ b))
  | .gtr => some (.bool (a > b))
  | .geq => some (.bool (a ≥ b))
  | _ => none
def kindEq : IntKind → IntKind → Bool
  | .i8, .i8 | .i16, .i16 | .i32, .i32 | .i64, .i64 | .u8, .u8 | .u16, .u16 | .u32, .u32 | .u64, .u64 => true
  | _, _ => false
def xnum : XV → Option (IntKind × Int × Bool)
  | .v (.int k a) => some (k, a, false)
  | .s (.int k a) => some (k, a, true)
  | _ => none
def xbin (o : Oper) (op : BinOp) (x y : XV) (t : T XV) : Option XR :=
  match xnum x, xnum y with
  | some (k, a, p), some (k', b, q) => bif kindEq k k' then (match xint op k a b with
    | some r => XR.of (bif p || q then .s r else .v r)
    | none => xscalar P o t) else xscalar P o t
  | _, _ => xscalar P o t

def xload (ty : TypeId) (y : XV) (h : T XB) : Option XR :=
  match y with
  | .ptr b k i j => match h.get (path b) with
    | some blk => bif Nat.beq blk.k k && !blk.op then (match nth blk.els i with
      | some e => match xcut P ty e j with
        | some x => some ⟨x, [], [b], false⟩
        | none => none
      | none => none) else none
    | none => none
  | .fptr l j => XR.opt (xcutF P ty l j)
  | _ => none
def xstore (ty : TypeId) (a y : XV) (h : T XB) : Option XR :=
  match a with
  | .ptr b k i j => match y.cells?, h.get (path b), tsize P ty with
    | some c, some blk, some n => match nth blk.els i with
      | some e => bif Nat.beq blk.k k && !blk.op && blk.rw && Nat.beq c.length n && Nat.ble (j + n) e.length then
          some ⟨.v undef, [(b, some { blk with els := blk.els.set i (e.take j ++ c ++ e.drop (j + n)) })], [b], false⟩ else none
      | none => none
    | _, _, _ => none
  | _ => none
def xfieldAddr (s : TypeId) (y : XV) (f : Nat) : Option XR :=
  match fieldOf P s f with
  | none => none
  | some (off, ft) => match tsize P ft with
    | some (_ + 1) => match y with
      | .ptr b k i j => XR.of (.ptr b k i (j + off))
      | .fptr l j => XR.of (.fptr l (j + off))
      | _ => none
    | _ => none
def xfield (s : TypeId) (y : XV) (f : Nat) : Option XR :=
  match y with
  | .agg l => match fieldOf P s f with
    | some (off, ft) => XR.opt (xcut P ft l off)
    | none => none
  | _ => none
def xindexAddr (ty : TypeId) (y z : XV) : Option XR :=
  match xnat z, P.underlying ty with
  | some i, some (.slice et) => match tsize P et with
    | none => none
    | some n => bif Nat.beq n 0 then none else match y with
      | .sl b k off len => bif Nat.beq k n && Nat.blt i len then XR.of (.ptr b k (off + i) 0) else none
      | .fsl l => match nth l i with
        | some e => bif Nat.beq e.length n then XR.of (.fptr e 0) else none
        | none => none
      | _ => none
  | some i, some (.array m et) => match tsize P et with
    | none => none
    | some n => bif Nat.blt i m && !(Nat.beq n 0) then match y with
      | .ptr b k q j => XR.of (.ptr b k q (j + i * n))
      | .fptr l j => XR.of (.fptr l (j + i * n))
      | _ => none else none
  | _, _ => none
def xindex (o : Oper) (ty : TypeId) (y z : XV) (t : T XV) : Option XR :=
  match y with
  | .agg l => match xnat z, P.underlying ty with
    | some i, some (.array m et) => match tsize P et with
      | some n => bif Nat.blt i m then XR.opt (xcut P et l (i * n)) else none
      | none => none
    | _, _ => none
  | _ => xscalar P o t
def xlen : XV → Nat
  | .sl _ _ _ n => n
  | .fsl l => l.length
  | _ => 0
def xsub (sz : Nat) (y : XV) (l h : Nat) (z : Bool) : Option XV :=
  match y with
  | .sl b k off _ => bif z then some .e0 else bif Nat.beq k sz then some (.sl b k (off + l) (h - l)) else none
  | .fsl e => bif z then some .e0 else bif (e.head?.all fun c => Nat.beq c.length sz) then some (.fsl ((e.take h).drop l)) else none
  | .e0 => some .e0
  | .v (.slice none 0 0) => some (.v (.slice none 0 0))
  | _ => none
def xbnd (t : T XV) (q : Option Operand) (d : Nat) : Option Nat :=
  match q with
  | none => some d
  | some q => (xev t q).bind xnat
def xslice (o : Oper) (ty : TypeId) (y : XV) (lo hi mx : Option Operand) (t : T XV) : Option XR :=
  match P.underlying ty with
  | some (.slice et) => match tsize P et, xbnd t lo 0, xbnd t hi (xlen y), xbnd t mx (xlen y) with
    | some sz, some l, some h, some m =>
      bif Nat.ble l h && Nat.ble h m && Nat.ble m (xlen y) && (mx.isNone || hi.isSome) then XR.opt (xsub sz y l h (mx.isSome && Nat.beq m l)) else none
    | _, _, _, _ => none
  | _ => xscalar P o t
def xparts (t : T XV) (pl : Nat → Option (Nat × Nat)) : List (Nat × Operand) → Option (List (Nat × List XV))
  | [] => some []
  | (f, x) :: r => match pl f, (xev t x).bind XV.cells?, xparts t pl r with
    | some (off, n), some c, some l => bif Nat.beq c.length n then some ((off, c) :: l) else none
    | _, _, _ => none
def xfill (cells : List XV) : List (Nat × List XV) → Option (List XV)
  | [] => some cells
  | (o, c) :: r => bif Nat.ble (o + c.length) cells.length then xfill (cells.take o ++ c ++ cells.drop (o + c.length)) r else none
def xsets (t : T XV) (n len : Nat) : List (Nat × Operand) → List (List XV) → Option (List (List XV))
  | [], acc => some acc
  | (i, x) :: r, acc => match (xev t x).bind XV.cells? with
    | some c => bif Nat.beq c.length n && Nat.blt i len then xsets t n len r (acc.set i c) else none
    | none => none
def xzero (ty : TypeId) : Option (List XV) := ((P.info? ty).bind (·.zero)).bind fun z => bif z.cells.all (·.oneCell') then some (z.cells.toList.map .v) else none
def xbuildOk (ty : TypeId) : Bool := match P.underlying ty with
  | some (.struct fs) => fs.toList.all fun f => (tsize P f.type).isSome
  | some (.array _ et) => (tsize P et).isSome
  | _ => false
def xbuild (ty : TypeId) (parts : List (Nat × Operand)) (t : T XV) : Option XR :=
  match xzero P ty with
  | some z => bif xbuildOk P ty then (match xparts t (placeOf P ty) parts with
    | some ps => match xfill z ps with
      | some c => XR.of (.agg c)
      | none => none
    | none => none) else none
  | none => none
def xnew (n k : Nat) (x : XV) (els : List (List XV)) (op : Bool) : Option XR := some ⟨x, [(n, some ⟨k, true, els, op⟩)], [], true⟩
def xbuildSlice (ty : TypeId) (len : Nat) (parts : List (Nat × Operand)) (t : T XV) (nx : Nat) : Option XR :=
  match P.underlying ty with
  | some (.slice et) => match tsize P et, xzero P et with
    | some n, some z => bif Nat.beq n 0 || !(Nat.ble (len * n) (2 ^ 24)) || !(Nat.beq z.length n) then none else
      match xsets t n len parts (List.replicate len z) with
      | some es => xnew nx n (.sl nx n 0 len) es false
      | none => none
    | _, _ => none
  | _ => none
def xmakeSlice (ty : TypeId) (x y : XV) (nx : Nat) : Option XR :=
  match x, y, P.underlying ty with
  | .v (.int .i64 (.ofNat a)), .v (.int .i64 (.ofNat b)), some (.slice et) => match P.info? et, tsize P et, xzero P et with
    | some inf, some n, some z => bif Nat.beq a b && !(Nat.beq n 0) && Nat.beq z.length n && Nat.ble a (2 ^ 40) && Nat.ble (inf.bytes * a) (2 ^ 40) then xnew nx n (.sl nx n 0 a) (List.replicate a z) false else none
    | _, _, _ => none
  | _, _, _ => none
/-- The elements of a slice, and whether they are not known one by one. -/
def xelems (y : XV) (h : T XB) : Option (List (List XV) × List Nat) :=
  match y with
  | .sl b k off n => match h.get (path b) with
    | some blk => bif Nat.beq blk.k k && !blk.op && Nat.ble (off + n) blk.els.length then some ((blk.els.drop off).take n, [b]) else none
    | none => none
  | .fsl l => some (l, [])
  | .e0 => some ([], [])
  | .v (.slice none 0 0) => some ([], [])
  | _ => none
/-- Elements of n cells each, that lead to no block of one's own if they are only read. -/
def elsOk (n : Nat) (y : XV) (ys : List (List XV)) : Bool :=
  match y with
  | .sl .. => ys.all fun e => Nat.beq e.length n
  | _ => ys.all fun e => Nat.beq e.length n && e.all fzc
def xappend (et : TypeId) (x y : XV) (h : T XB) (nx : Nat) : Option XR :=
  match P.info? et, tsize P et, xzero P et with
  | some inf, some n, some z =>
    bif Nat.beq n 0 || Nat.beq inf.bytes 0 || !(Nat.beq z.length n) then none else
    match xelems y h with
    | none => none
    | some (ys, rs) =>
      bif elsOk n y ys then match x with
        | .sl b k off len => bif Nat.beq off 0 && Nat.beq k n then (match h.get (path b) with
          | some blk => bif !blk.op && Nat.beq blk.k k && blk.rw && Nat.ble len blk.els.length && Nat.ble ((len + ys.length) * inf.bytes) (2 ^ 40) then
              some ⟨.sl nx n 0 (len + ys.length), [(b, none), (nx, some ⟨n, true, blk.els.take len ++ ys, false⟩)], b :: rs, true⟩ else none
          | none => none) else none
        | .e0 => bif ys.isEmpty then some ⟨.e0, [], rs, false⟩ else bif Nat.ble (ys.length * inf.bytes) (2 ^ 40) then some ⟨.sl nx n 0 ys.length, [(nx, some ⟨n, true, ys, false⟩)], rs, true⟩ else none
        | .v (.slice none 0 0) => bif ys.isEmpty then some ⟨.v (.slice none 0 0), [], rs, false⟩ else bif Nat.ble (ys.length * inf.bytes) (2 ^ 40) then some ⟨.sl nx n 0 ys.length, [(nx, some ⟨n, true, ys, false⟩)], rs, true⟩ else none
        | _ => none else none
  | _, _, _ => none
def xcopy (et : TypeId) (x y : XV) (h : T XB) : Option XR :=
  match tsize P et, xelems y h with
  | some n, some (ys, rs) => bif elsOk n y ys then match x with
    | .sl b k off len => bif Nat.beq k n then (match h.get (path b) with
      | some blk => bif !blk.op && Nat.beq blk.k k && blk.rw && Nat.ble (off + len) blk.els.length then
          some ⟨.v (.int .i64 ((min ys.length len : Nat) : Int)), [(b, some ⟨blk.k, true, blk.els.take off ++ ys.take (min ys.length len) ++ blk.els.drop (off + min ys.length len), false⟩)], b :: rs, false⟩ else none
      | none => none) else none
    | _ => none else none
  | _, _ => none
def xevs (t : T XV) : List Operand → Option (List XV)
  | [] => some []
  | x :: r => match xev t x, xevs t r with
    | some y, some l => some (y :: l)
    | _, _ => none

/-- An operation that is no call of a function. -/
def xop (o : Oper) (t : T XV) (h : T XB) (nx : Nat) : Option XR :=
  match o.op with
  | .move x | .assign x => XR.opt (xev t x)
  | .pick c a b => match xev t c with
    | some (.v (.bool true)) => XR.opt (xev t a)
    | some (.v (.bool false)) => XR.opt (xev t b)
    | _ => none
  | .extract x i => match xev t x with
    | some (.tup l) => XR.opt (nth l i)
    | _ => none
  | .nilCheck x => match xev t x with
    | some (.ptr b k i j) => XR.of (.ptr b k i j)
    | some (.fptr l j) => XR.of (.fptr l j)
    | _ => none
  | .makeInterface ty x => match xev t x, P.underlying ty with
    | some y, some d => match d with
      | .interface _ => none
      | _ => XR.of (.ifc ty y)
    | _, _ => none
  | .makeFunc (.func f) first cap => bif Nat.beq first.size 0 then (match xevs t cap.toList with | some c => XR.of (.fn f c) | none => none) else none
  | .alloc ty => match xzero P ty with
    | some z => xnew nx z.length (.ptr nx z.length 0 0) [z] false
    | none => none
  | .box _ x => match (xev t x).bind XV.cells? with
    | some z => xnew nx z.length (.ptr nx z.length 0 0) [z] false
    | none => none
  | .load ty x => match xev t x with
    | some y => xload P ty y h
    | none => none
  | .store ty a x => match xev t a, xev t x with
    | some y, some z => xstore P ty y z h
    | _, _ => none
  | .fieldAddr s x f => match xev t x with
    | some y => xfieldAddr P s y f
    | none => none
  | .field s x f => match xev t x with
    | some y => xfield P s y f
    | none => none
  | .indexAddr ty x ix => match xev t x, xev t ix with
    | some y, some z => xindexAddr P ty y z
    | _, _ => none
  | .index ty x ix => match xev t x, xev t ix with
    | some y, some z => xindex P o ty y z t
    | _, _ => none
  | .slice ty x lo hi mx => match xev t x with
    | some y => xslice P o ty y lo hi mx t
    | none => none
  | .build ty parts => xbuild P ty parts.toList t
  | .buildSlice ty len parts => xbuildSlice P ty len parts.toList t nx
  | .makeSlice ty ln cp => match xev t ln, xev t cp with
    | some x, some y => xmakeSlice P ty x y nx
    | _, _ => none
  | .call c => match c.callee, c.args.toList with
    | .builtin .len, [a] => match xev t a, (c.argTypes[0]?).bind P.underlying with
      | some (.sl _ _ _ n), some (.slice _) => XR.of (.v (.int .i64 n))
      | some (.fsl l), some (.slice _) => XR.of (.v (.int .i64 l.length))
      | some (.ol l), some (.slice _) => XR.of (.s (.int .i64 l.length))
      | some .e0, some (.slice _) => XR.of (.v (.int .i64 0))
      | some _, _ => xscalar P o t
      | none, _ => none
    | .builtin .append, [a, b] => match xev t a, xev t b, c.argTypes.toList with
      | some x, some y, [ta, tb] => match P.underlying ta, P.underlying tb with
        | some (.slice et), some (.slice _) => xappend P et x y h nx
        | _, _ => none
      | _, _, _ => none
    | .builtin .copy, [a, b] => match xev t a, xev t b, c.argTypes.toList with
      | some x, some y, [ta, _] => match P.underlying ta with
        | some (.slice et) => xcopy P et x y h
        | _ => none
      | _, _, _ => none
    | .builtin .max, _ => xscalar P o t
    | .builtin .min, _ => xscalar P o t
    | _, _ => none
  | .binOp op ty x y _ => match xev t x, xev t y with
    | some (.ifc _ _), some (.v .nilIface) | some (.v .nilIface), some (.ifc _ _) => match op, P.underlying ty with
      | .eql, some (.interface _) => XR.of (.v (.bool false))
      | .neq, some (.interface _) => XR.of (.v (.bool true))
      | _, _ => none
    | some a, some b => xbin P o op a b t
    | _, _ => none
  | .unOp .. | .convert .. => xscalar P o t
  | _ => none

/-- A cell that a callee sees as it is. -/
def inert : XV → Bool
  | .v (.int _ _) | .v (.bool _) | .s (.int _ _) | .s (.bool _) | .fsl _ | .ol _ => true
  | _ => false
def inertLL (l : List (List XV)) : Prop := ∀ e ∈ l, ∀ x ∈ e, inert x = true
/-- A value as a callee sees it, or who called; the blocks that it leads to; what is owed. -/
def xsnapL (f : XV → Option (XV × List Nat × List Prop)) : List XV → Option (List XV × List Nat × List Prop)
  | [] => some ([], [], [])
  | x :: l => match f x with
    | some (y, a, p) => match xsnapL f l with
      | some (m, b, q) => some (y :: m, a ++ b, p ++ q)
      | none => none
    | none => none
def xsnapLL (f : XV → Option (XV × List Nat × List Prop)) : List (List XV) → Option (List (List XV) × List Nat × List Prop)
  | [] => some ([], [], [])
  | x :: l => match xsnapL f x with
    | some (y, a, p) => match xsnapLL f l with
      | some (m, b, q) => some (y :: m, a ++ b, p ++ q)
      | none => none
    | none => none
def xsnap (h : T XB) : Nat → XV → Option (XV × List Nat × List Prop)
  | 0, _ => none
  | d + 1, x => match x with
    | .v y => match y with
      | .slice none 0 0 => some (.fsl [], [], [])
      | y => some (.v y, [], [])
    | .s y => match y with
      | .int k i => some (.s (.int k i), [], [])
      | .bool b => some (.s (.bool b), [], [])
      | _ => none
    | .agg l => match xsnapL (xsnap h d) l with
      | some (m, b, p) => some (.agg m, b, p)
      | none => none
    | .tup l => match xsnapL (xsnap h d) l with
      | some (m, b, p) => some (.tup m, b, p)
      | none => none
    | .fsl l => some (.fsl l, [], [])
    | .ol l => some (.ol l, [], [])
    | .e0 => some (.fsl [], [], [])
    | .sl b k off len => match h.get (path b) with
      | some blk => bif blk.op then (bif Nat.beq blk.k k && Nat.beq off 0 && Nat.blt 1 d then some (.ol blk.els, [b], [len = blk.els.length, inertLL blk.els]) else none)
        else bif Nat.beq blk.k k && Nat.ble (off + len) blk.els.length then (match xsnapLL (xsnap h d) ((blk.els.drop off).take len) with
        | some (m, r, p) => some (.fsl m, b :: r, p)
        | none => none) else none
      | none => none
    | .ptr b k i j => match h.get (path b) with
      | some blk => bif blk.op then none else match nth blk.els i with
        | some e => bif Nat.beq blk.k k then (match xsnapL (xsnap h d) e with
          | some (m, r, p) => some (.fptr m j, b :: r, p)
          | none => none) else none
        | none => none
      | none => none
    | .fptr l j => some (.fptr l j, [], [])
    | .ifc t y => match xsnap h d y with
      | some (z, r, p) => some (.ifc t z, r, p)
      | none => none
    | .fn f c => match xsnapL (xsnap h d) c with
      | some (m, b, p) => some (.fn f m, b, p)
      | none => none
def dues : List Prop → Prop → Prop
  | [], K => K
  | p :: r, K => p ∧ dues r K
end
/-- A run that goes no further. -/
inductive Stop {α : Type} (a : α) : Prop

/-- A state told by lists: slots, blocks, the next number. -/
structure LS where
  t : List (Nat × XV)
  h : List (Nat × XB)
  n : Nat
inductive Ex' where
  | exit (id : Nat)
  | ret
/-- What is said of what is not known in numbers. -/
inductive Told where
  | dec (b : Bool)
  | both (q r : List Told)
  | num (k : Nat)
  | elem (e : List XV)
  | ret (r : XV)
  | chg (ids : List Nat)
  | loop (key : Nat) (ρ : List (Nat × Nat)) (pre : LS) (e : Ex') (post : LS)

section
def putL {α : Type} : List (Nat × α) → T α → T α
  | [], t => t
  | (i, x) :: l, t => putL l (t.put (some x) (path i))
def LS.st (s : LS) : XS := ⟨putL s.t .leaf, putL s.h .leaf, s.n⟩
def Ex'.ex : Ex' → Ex
  | .exit i => .exit i
  | .ret => .ret

def setOp (x : Operand) (y : XV) (t : T XV) : T XV := match x with | .tmp i => t.put (some y) (path i) | _ => t
/-- A number or a condition that is wanted as it is: it is told. -/
def conc (x : Operand) (t : T XV) (q : List Told) (K : T XV → List Told → Prop) : Prop :=
  match xev t x with
  | some (.s (.bool b)) => match q with
    | .dec d :: q' => b = d ∧ K (setOp x (.v (.bool d)) t) q'
    | .both q1 q2 :: q' => (b = true → K (setOp x (.v (.bool true)) t) (q1 ++ q')) ∧ (b = false → K (setOp x (.v (.bool false)) t) (q2 ++ q'))
    | _ => Stop b
  | some (.s (.int k e)) => match q with
    | .num m :: q' => e = .ofNat m ∧ K (setOp x (.v (.int k (.ofNat m))) t) q'
    | _ => Stop e
  | _ => K t q
def conc? (x : Option Operand) (t : T XV) (q : List Told) (K : T XV → List Told → Prop) : Prop :=
  match x with
  | some x => conc x t q K
  | none => K t q
/-- What an operation wants told. -/
def wants (o : Oper) (t : T XV) (q : List Told) (K : T XV → List Told → Prop) : Prop :=
  match o.op with
  | .pick c _ _ => conc c t q K
  | .indexAddr _ _ ix | .index _ _ ix => conc ix t q K
  | .slice _ x lo hi mx => match xev t x with
    | some (.ol _) => K t q
    | _ => conc? lo t q fun t q => conc? hi t q fun t q => conc? mx t q K
  | .makeSlice _ a b => conc a t q fun t q => conc b t q K
  | _ => K t q

abbrev XRF := Bool → FuncId → List XV → T XB → Nat → List Told → (XV → T XB → Nat → List Told → Prop) → Prop
def xfreeze (h : T XB) : List Nat → Option (List (Nat × Option XB))
  | [] => some []
  | b :: r => match h.get (path b), xfreeze h r with
    | some blk, some ws => some (bif blk.rw then (b, some { blk with rw := false }) :: ws else ws)
    | _, _ => none
def xplainB : XV → Bool
  | .v _ | .s _ => true
  | _ => false
def xplainA : XV → Bool
  | .v _ | .s _ => true
  | .agg l => l.all xplainB
  | _ => false
def xleads : XV → Bool
  | .v _ | .s _ => false
  | .agg l => !l.all xplainB
  | .tup l => !l.all xplainA
  | _ => true

/-- What is run: the program; the functions of which all is known; how deep calls may go from here. -/
structure Cfg where
  S : Sys
  sum : FuncId → Bool
  dep : Nat
/-- What a call of a function of which all is known is owed to come to. -/
def Cfg.owed (C : Cfg) (g : FuncId) (ys : List XV) (r : XV) : Prop := pure_ (arun C.S C.dep) g (erL ys id) = some (er r id)

/-- A call with a memory of its own. -/
def xcall (C : Cfg) (rf : XRF) (g : FuncId) (xs : List XV) (h : T XB) (q : List Told) (K : XR → List Told → Prop) : Prop :=
  match xsnapL (xsnap h snapD) xs with
  | none => Stop (g, xs)
  | some (ys, bs, ps) =>
    let fin (r : XV) (q : List Told) : Prop := bif xleads r then (match xfreeze h bs with | some ws => K ⟨r, ws, bs, false⟩ q | none => False) else K ⟨r, [], bs, false⟩ q
    dues ps (bif C.sum g then (match q with | .ret r :: q' => C.owed g ys r ∧ bif fz 4 r then fin r q' else Stop r | _ => Stop (g, ys))
    else rf true g ys .leaf 0 q fun r h' _ q => match xsnap h' snapD r with
      | some (y, _, ps) => dues ps (bif fz 4 y then fin y q else Stop y)
      | none => Stop (g, r))
/-- The blocks that a value leads to. -/
def xgathL (f : XV → Option (List (Nat × XB))) : List XV → Option (List (Nat × XB))
  | [] => some []
  | x :: l => match f x, xgathL f l with
    | some a, some b => some (a ++ b)
    | _, _ => none
def xgath (h : T XB) : Nat → XV → Option (List (Nat × XB))
  | 0, _ => none
  | d + 1, x => match x with
    | .agg l => xgathL (xgath h d) l
    | .tup l => xgathL (xgath h d) l
    | .sl b _ _ _ | .ptr b _ _ _ => match h.get (path b) with
      | some blk => bif blk.op then none else match xgathL (xgath h d) blk.els.flatten with
        | some r => some ((b, blk) :: r)
        | none => none
      | none => none
    | .ifc _ y => xgath h d y
    | .fn _ c => xgathL (xgath h d) c
    | _ => some []
def xlow (ids : List Nat) : Nat → XV → Bool
  | 0, _ => false
  | d + 1, x => match x with
    | .agg l => l.all (xlow ids d)
    | .tup l => l.all (xlow ids d)
    | .sl b _ _ _ | .ptr b _ _ _ => ids.contains b
    | .ifc _ y => xlow ids d y
    | .fn _ c => c.all (xlow ids d)
    | _ => true
/-- Is a value surely the same as itself? -/
def xrefl : Nat → XV → Bool
  | 0, _ => false
  | d + 1, x => match x with
    | .v y => match y with
      | .int _ _ | .bool _ | .slice none 0 0 | .nilIface => true
      | _ => false
    | .s y => match y with
      | .int _ _ | .bool _ => true
      | _ => false
    | .agg l | .tup l => l.all (xrefl d)
    | .fsl l => l.all fun e => e.all (xrefl d)
    | .e0 | .sl .. | .ptr .. => true
    | _ => false
/-- What a call in place leaves in those blocks; chg: which of them are changed. -/
def xbacks (ids chg : List Nat) (h : T XB) : List (Nat × XB) → (List (Nat × Option XB) → Prop) → Prop
  | [], K => K []
  | (b, x) :: r, K => match h.get (path b) with
    | some y => bif x.rw then (bif chg.contains b then (bif !y.op && y.els.all (fun e => e.all (xlow ids snapD)) then xbacks ids chg h r (fun ws => K ((b, some y) :: ws)) else Stop (b, y))
        else (x = y ∧ bif !x.op && x.els.all (fun e => e.all (xrefl snapD)) then xbacks ids chg h r K else Stop (b, x)))
      else xbacks ids chg h r K
    | none => Stop b
def xincall (rf : XRF) (g : FuncId) (xs : List XV) (h : T XB) (nx : Nat) (q : List Told) (K : XR → List Told → Prop) : Prop :=
  match xgathL (xgath h snapD) xs, q with
  | some bs, .chg ids :: q => rf false g xs (putL bs .leaf) nx q fun r h' _ q => bif xlow (bs.map (·.1)) snapD r then xbacks (bs.map (·.1)) ids h' bs fun ws => K ⟨r, ws, bs.map (·.1), false⟩ q else Stop (g, xs, 1)
  | _, _ => Stop (g, xs)
def xsliceEl (P : Program) (ty : TypeId) : Option Nat := match P.underlying ty with
  | some (.slice et) => tsize P et
  | _ => none
def xcalled (t : T XV) (c : Call) : Option (FuncId × List XV) :=
  match c.callee with
  | .value f => match xev t f, xevs t c.args.toList with
    | some (.fn g cap), some xs => some (g, xs ++ cap)
    | _, _ => none
  | _ => none
def isFn (c : Call) : Bool := match c.callee with | .value _ => true | _ => false
def xother (C : Cfg) (o : Oper) (t : T XV) (h : T XB) (nx : Nat) (q : List Told) (K : T XV → XR → List Told → Prop) : Prop :=
  wants o t q fun t q => match xop C.S.P o t h nx with
    | some r => K t r q
    | none => Stop (o, t, h)
def xelem (C : Cfg) (ty : TypeId) (l : List (List XV)) (z : Option XV) (t : T XV) (q : List Told) (K : T XV → XR → List Told → Prop) : Prop :=
  match q, z.bind xnum, xsliceEl C.S.P ty with
  | .elem e :: q', some (_, i, _), some n => (0 ≤ i ∧ l[i.toNat]? = some e) ∧ bif Nat.beq e.length n && !(Nat.beq n 0) then K t ⟨.fptr e 0, [], [], false⟩ q' else Stop e
  | _, _, _ => Stop z
/-- A row that is not known element by element grows. -/
def xgrow (P : Program) (et : Option TypeDesc) (x y : XV) (h : T XB) (nx : Nat) : Option (XR × List Prop) :=
  match et with
  | some (.slice et) => match P.info? et, tsize P et, xzero P et, x, xelems y h with
    | some inf, some n, some z, .sl b k off len, some (ys, rs) => match h.get (path b) with
      | some blk => bif blk.op && !(Nat.beq n 0) && !(Nat.beq inf.bytes 0) && Nat.beq z.length n && Nat.beq off 0 && Nat.beq k n && Nat.beq blk.k k && blk.rw && ys.all (fun e => Nat.beq e.length n && e.all fzc) then
          some (⟨.sl nx n 0 (len + ys.length), [(b, none), (nx, some ⟨n, true, blk.els ++ ys, true⟩)], b :: rs, true⟩, [len = blk.els.length, (len + ys.length) * inf.bytes ≤ 2 ^ 40]) else none
      | none => none
    | _, _, _, _, _ => none
  | _ => none
def isOp (h : T XB) : Option XV → Bool
  | some (.sl b _ _ _) => match h.get (path b) with
    | some blk => blk.op
    | none => false
  | _ => false
/-- A division, or what is left of one. -/
def divBy : BinOp → Option Bool
  | .quo => some true
  | .rem => some false
  | _ => none
def xdiv (o : Oper) (qr : Bool) (x : Operand) (k' : IntKind) (e : Int) (t : T XV) (q : List Told) (K : T XV → XR → List Told → Prop) : Prop :=
  match (xev t x).bind xnum with
  | some (k, u, _) => bif kindEq k k' then e ≠ 0 ∧ K t ⟨.s (.int k (bif qr then k.wrap (u.tdiv e) else u.tmod e)), [], [], false⟩ q else Stop (o, t)
  | none => Stop (o, t)
def isSl (P : Program) (ty : TypeId) : Bool := match P.underlying ty with
  | some (.slice _) => true
  | _ => false
/-- An operation among others. -/
def xdo (C : Cfg) (rf : XRF) (o : Oper) (t : T XV) (h : T XB) (nx : Nat) (q : List Told) (K : T XV → XR → List Told → Prop) : Prop :=
  match o.op with
  | .call c => bif isFn c then (match xcalled t c with
    | some (g, xs) => match C.S.G g with
      | some _ => Stop (o, t)
      | none => bif C.S.inl g then xincall rf g xs h nx q (fun r q => K t r q) else xcall C rf g xs h q fun r q => K t r q
    | none => Stop (o, t)) else match c.callee, c.args.toList, c.argTypes.toList with
      | .builtin .append, [a, b], [ta, tb] => bif isOp h (xev t a) && isSl C.S.P tb then (match xev t a, xev t b with
        | some x, some y => match xgrow C.S.P (C.S.P.underlying ta) x y h nx with
          | some (r, ps) => dues ps (K t r q)
          | none => Stop (o, t)
        | _, _ => Stop (o, t)) else xother C o t h nx q K
      | .builtin .len, [a], [ta] => bif isOp h (xev t a) && isSl C.S.P ta then (match xev t a with
        | some (.sl _ _ _ n) => K t ⟨.s (.int .i64 n), [], [], false⟩ q
        | _ => Stop (o, t)) else xother C o t h nx q K
      | _, _, _ => xother C o t h nx q K
  | .indexAddr ty x ix => match xev t x with
    | some (.ol l) => xelem C ty l (xev t ix) t q K
    | _ => xother C o t h nx q K
  | .binOp op _ x y _ => match divBy op, xev t y with
    | some qr, some (.s (.int k e)) => xdiv o qr x k e t q K
    | _, _ => xother C o t h nx q K
  | _ => xother C o t h nx q K

def xput (dst : Option Tmp) (x : XV) (t : T XV) : T XV := match dst with | some d => t.put (some x) (path d) | none => t
def xapply (h : T XB) : List (Nat × Option XB) → T XB
  | [] => h
  | (b, x) :: r => xapply (h.put x (path b)) r
def xstep (s : XS) (t : T XV) (dst : Option Tmp) (r : XR) : XS := ⟨xput dst r.x t, xapply s.h r.ws, bif r.nw then s.n + 1 else s.n⟩
/-- Is a guarded operation wanted? -/
def xwanted (ops : Array Oper) (o : Oper) (t : T XV) (q : List Told) (K : Bool → T XV → List Told → Prop) : Prop :=
  match o.guard with
  | none => K true t q
  | some (j, want) => match (ops[j]?).bind (·.dst) with
    | some d => conc (.tmp d) t q fun t q => match t.get (path d) with
      | some (.v (.bool b)) => K (b == want) t q
      | some (.v _) => K false t q
      | _ => False
    | none => K false t q
/-- A call in place, where the order is the text's. -/
def xplace (C : Cfg) (o : Oper) (t : T XV) : Option (FuncId × List XV) :=
  match o.op with
  | .call c => match xcalled t c with
    | some (g, xs) => bif C.S.inl g then some (g, xs) else none
    | none => none
  | _ => none
def xseq (C : Cfg) (rf : XRF) (ops : Array Oper) : List Oper → XS → List Told → (XS → List Told → Prop) → Prop
  | [], s, q, K => K s q
  | o :: r, s, q, K => xwanted ops o s.t q fun w t q =>
    bif w then (match xplace C o t with
      | some (g, xs) => rf false g xs s.h s.n q fun x h n q => xseq C rf ops r ⟨xput o.dst x t, h, n⟩ q K
      | none => xdo C rf o t s.h s.n q fun t y q => xseq C rf ops r (xstep ⟨t, s.h, s.n⟩ t o.dst y) q K)
    else xseq C rf ops r ⟨xput o.dst (.v undef) t, s.h, s.n⟩ q K
/-- Operations i < j that no edge orders. -/
def unord (ops : Array Oper) : List (Nat × Nat) :=
  let bef := Region.before ops
  (List.range ops.size).flatMap fun j => ((List.range j).filter fun i => !(bef.getD j 0).testBit i).map fun i => (i, j)
/-- May operations i and j not change places, by their slots? -/
def clash (ops : Array Oper) (i j : Nat) : Bool :=
  match ops[i]?, ops[j]? with
  | some oi, some oj => (match oj.dst with | some d => (looks ops oi).contains d || oi.dst == some d | none => false) || (match oi.dst with | some d => (looks ops oj).contains d | none => false)
  | _, _ => true
def free (ops : Array Oper) : Bool := edgesOk 0 ops.toList && (unord ops).all fun p => !clash ops p.1 p.2
def xconf (fs : List Foot) (p : Nat × Nat) : Bool :=
  match nth fs p.1, nth fs p.2 with
  | some fi, some fj => meets fj.ws fi.rs || meets fj.ws fi.ws || meets fi.ws fj.rs
  | _, _ => true
def quietF (fs : List Foot) : Bool := fs.all fun f => f.ws.isEmpty
def xaops (C : Cfg) (rf : XRF) (ops : Array Oper) : List Oper → XS → List Foot → List Told → (XS → List Foot → List Told → Prop) → Prop
  | [], s, fs, q, K => K s fs.reverse q
  | o :: r, s, fs, q, K => xwanted ops o s.t q fun w t q =>
    bif w then xdo C rf o t s.h s.n q fun t y q => xaops C rf ops r (xstep ⟨t, s.h, s.n⟩ t o.dst y) (⟨y.rs, y.ws.map (·.1)⟩ :: fs) q K
    else xaops C rf ops r ⟨xput o.dst (.v undef) t, s.h, s.n⟩ (⟨[], []⟩ :: fs) q K
def xregion (C : Cfg) (rf : XRF) (ops : Array Oper) (draw : Bool) (s : XS) (q : List Told) (K : XS → List Told → Prop) : Prop :=
  bif draw then xaops C rf ops ops.toList s [] q fun s fs q => bif free ops && (quietF fs || (unord ops).all fun p => !xconf fs p) then K s q else Stop (ops, fs)
  else xseq C rf ops ops.toList s q K
def xrounds (f : XS → List Told → (Ex → XS → List Told → Prop) → Prop) : Nat → XS → List Told → (Ex → XS → List Told → Prop) → Prop
  | 0, _, _, _ => Stop 0
  | n + 1, s, q, K => f s q fun e s q => match e with
    | .normal => xrounds f n s q K
    | e => K e s q
def renX (ρ : Nat → Nat) : XV → XV
  | .sl b k o n => .sl (ρ b) k o n
  | .ptr b k i j => .ptr (ρ b) k i j
  | .agg l => .agg (l.map (renX ρ))
  | .tup l => .tup (l.map (renX ρ))
  | .ifc t x => .ifc t (renX ρ x)
  | .fn f l => .fn f (l.map (renX ρ))
  | x => x
def renB (ρ : Nat → Nat) (b : XB) : XB := { b with els := bif b.op then b.els else b.els.map (·.map (renX ρ)) }
def renOf (ρ : List (Nat × Nat)) (b : Nat) : Nat := match ρ with
  | [] => b
  | (x, y) :: r => bif Nat.beq x b then y else renOf r b
/-- A state holds all that is listed, under other numbers. -/
def holdsT (ρ : Nat → Nat) (t : T XV) : List (Nat × XV) → Prop → Prop
  | [], p => p
  | (i, x) :: r, p => t.get (path i) = some (renX ρ x) ∧ holdsT ρ t r p
def holdsH (ρ : Nat → Nat) (h : T XB) : List (Nat × XB) → Prop → Prop
  | [], p => p
  | (b, x) :: r, p => h.get (path (ρ b)) = some (renB ρ x) ∧ holdsH ρ h r p
def firstRegion : Code → Option Nat
  | .region id _ _ => some id
  | .seq a b => match firstRegion a with | some i => some i | none => firstRegion b
  | .cond _ a b => match firstRegion a with | some i => some i | none => firstRegion b
  | .block _ a => firstRegion a
  | .loop a => firstRegion a
  | _ => none
def isLoop (a : Code) : List Told → Option (List (Nat × Nat) × LS × Ex' × LS × List Told)
  | .loop key ρ pre e post :: q => match firstRegion a with
    | some i => bif Nat.beq i key then some (ρ, pre, e, post, q) else none
    | none => none
  | _ => none
/-- The numbers under which a state holds what is listed are apart. -/
def apart (ρ : Nat → Nat) (m : Nat) : Nat → Bool
  | 0 => true
  | n + 1 => Nat.blt (ρ n) m && (List.range n).all (fun b => !Nat.beq (ρ b) (ρ n)) && apart ρ m n
/-- All numbers of blocks in what is listed are less than n. -/
def lob (n : Nat) : Nat → XV → Bool
  | 0, _ => false
  | d + 1, x => match x with
    | .agg l | .tup l | .fn _ l => l.all (lob n d)
    | .sl b _ _ _ | .ptr b _ _ _ => Nat.blt b n
    | .ifc _ y => lob n d y
    | _ => true
def LS.ok (s : LS) : Bool := s.t.all (fun p => lob s.n 4 p.2) && s.h.all fun p => Nat.blt p.1 s.n && (p.2.op || p.2.els.all fun e => e.all (lob s.n 4))
/-- What a loop comes to. -/
def LoopOK (S : Sys) (d : Nat) (a : Code) (pre : LS) (e : Ex') (post : LS) : Prop :=
  ∀ D ι s, XRel D ι s.h.length pre.st s → ∃ s' D' ι', rounds (aexec S (arun S d) a) S.N s = some (e.ex, s') ∧ XRel D' ι' s'.h.length post.st s' ∧ s'.t.length = s.t.length
/-- Is it told what a loop comes to? Its number is that of its first region, and a million. -/
def toldLoop (C : Cfg) (a : Code) : Bool := match firstRegion a with
  | some i => C.sum (1000000 + i)
  | none => false
/-- owedL: what a loop is owed to come to. -/
def xexec (C : Cfg) (rf : XRF) (owedL : Code → LS → Ex' → LS → Prop) : Code → XS → List Told → (Ex → XS → List Told → Prop) → Prop
  | .skip, s, q, K => K .normal s q
  | .region _ ops draw, s, q, K => xregion C rf ops draw s q fun s q => K .normal s q
  | .seq a b, s, q, K => xexec C rf owedL a s q fun e s q => match e with
    | .normal => xexec C rf owedL b s q K
    | e => K e s q
  | .cond c a b, s, q, K => conc c s.t q fun t q => match xev t c with
    | some (.v (.bool true)) => xexec C rf owedL a ⟨t, s.h, s.n⟩ q K
    | some (.v (.bool false)) => xexec C rf owedL b ⟨t, s.h, s.n⟩ q K
    | _ => Stop (c, t)
  | .block id a, s, q, K => xexec C rf owedL a s q fun e s q => match e with
    | .exit i => bif Nat.beq i id then K .normal s q else K (.exit i) s q
    | e => K e s q
  | .loop a, s, q, K => bif toldLoop C a then (match isLoop a q with
    | some (ρ, pre, e, post, q) => owedL a pre e post ∧ bif apart (renOf ρ) s.n pre.n && pre.ok then holdsT (renOf ρ) s.t pre.t (holdsH (renOf ρ) s.h pre.h (K e.ex post.st q)) else Stop ρ
    | none => Stop s.t) else xrounds (xexec C rf owedL a) C.S.N s q K
  | .exit id, s, q, K => K (.exit id) s q
  | .ret, s, q, K => K .ret s q
  | _, _, _, _ => False
def xresult (P : Program) (s : XS) : ResultVar → Option XV
  | .tmp x => s.t.get (path x)
  | .cell a t => match s.t.get (path a) with
    | some (.ptr b k i j) => match s.h.get (path b) with
      | some blk => match nth blk.els i with
        | some e => bif Nat.beq blk.k k && !blk.op then xcut P t e j else none
        | none => none
      | none => none
    | _ => none
def xresL (P : Program) (s : XS) : List ResultVar → Option (List XV)
  | [] => some []
  | x :: r => match xresult P s x, xresL P s r with
    | some y, some l => some (y :: l)
    | _, _ => none
def xresults (P : Program) (fn : Func) (s : XS) : Option XV :=
  match xresL P s fn.results.toList with
  | some [x] => some x
  | some l => some (.tup l)
  | none => none
def targs : Nat → List XV → T XV → T XV
  | _, [], t => t
  | i, x :: l, t => targs (i + 1) l (t.put (some x) (path i))
def notNum (fn : Func) : Bool := !(fn.name == "runtime.NumGoroutine")
/-- All results go to slots less than n. -/
def wid (n : Nat) : Code → Bool
  | .region _ ops _ => ops.toList.all fun o => match o.dst with | some d => Nat.blt d n | none => true
  | .seq a b => wid n a && wid n b
  | .cond _ a b => wid n a && wid n b
  | .block _ a => wid n a
  | .loop a => wid n a
  | _ => true
/-- A call of function f; pu: it has a memory of its own. -/
def xrun (S : Sys) (sum : FuncId → Bool) : Nat → XRF
  | 0, _, _, _, _, _, _, _ => False
  | d + 1, pu, f, args, h, n, q, K => match S.P.funcs[f]? with
    | some fn => match fn.body with
      | some c => bif notNum fn && Nat.ble args.length fn.ntmps && wid fn.ntmps c then
        xexec ⟨S, sum, d⟩ (xrun S sum d) (fun a pre e post => bif pu then LoopOK S d a pre e post else False) c ⟨targs 0 args .leaf, h, n⟩ q fun e s q => match e with
          | .exit _ => Stop f
          | _ => match xresults S.P fn s with
            | some r => K r s.h s.n q
            | none => Stop f
        else Stop f
      | none => Stop f
    | none => Stop f
/-- A call with a memory of its own. -/
def xpure (S : Sys) (sum : FuncId → Bool) (d : Nat) (f : FuncId) (args : List XV) (q : List Told) (K : XV → Prop) : Prop :=
  xrun S sum d true f args .leaf 0 q fun r h _ _ => match xsnap h snapD r with
    | some (y, _, ps) => dues ps (K y)
    | none => Stop r
end
end
end Go.Proofs.YtjhekjhbjaengaaGreatDoor.Ev
