/- An evaluator of the program over plain values: definitions. A value is a number, an aggregate, a list that is only read, a row of the activation's own (by its number), a pointer to a variable of its own, a pointer that is only read, a closure. -/
import Derived.Orders
import Derived.Laws.CopyRow
import Derived.Below
namespace Go.Proofs.YtjhekjhbjaengaaGreatDoor.Ev
open Go

/-- Plain values. -/
inductive AV where
  | v (x : Value)
  | agg (l : List AV)
  | tup (l : List AV)
  | fsl (l : List (List AV))
  | e0
  | sl (b k off len : Nat)
  | ptr (b k i j : Nat)
  | fptr (l : List AV) (j : Nat)
  | ifc (t : TypeId) (x : AV)
  | fn (f : FuncId) (cap : List AV)
  deriving Inhabited

/-- A block of the activation's own: elements of k cells each; rw: may it be written. -/
structure Blk where
  k : Nat
  rw : Bool
  els : List (List AV)
abbrev Heap := List (Option Blk)
abbrev Ws := List (Nat × Option Blk)

/-- What reads blocks. -/
inductive HM (α : Type) where
  | ret (a : α)
  | get (b : Nat) (f : Blk → HM α)
  | bad
namespace HM
def bind {α β : Type} : HM α → (α → HM β) → HM β
  | .ret a, f => f a
  | .get b k, f => .get b fun x => (k x).bind f
  | .bad, _ => .bad
instance : Monad HM where
  pure := HM.ret
  bind := HM.bind
def ofOption {α : Type} : Option α → HM α
  | some a => .ret a
  | none => .bad
def run {α : Type} (h : Heap) : HM α → Option (α × List Nat)
  | .ret a => some (a, [])
  | .get b k => match h[b]? with
    | some (some x) => match (k x).run h with
      | some (a, r) => some (a, b :: r)
      | none => none
    | _ => none
  | .bad => none
end HM

/-- A computation of the model's that needs neither memory nor a draw. -/
def runP (P : Program) {α : Type} : Sem α → Option α
  | .pure a => some a
  | .program k => runP P (k P)
  | _ => none

def tsize (P : Program) (t : TypeId) : Option Nat := (P.info? t).map (·.size)
def tagg (P : Program) (t : TypeId) : Option Bool := (P.underlying t).map fun | .struct _ | .array _ _ => true | _ => false
def zcells (P : Program) (t : TypeId) : Option (List AV) := ((P.info? t).bind (·.zero)).bind fun z => if z.cells.all (·.oneCell') then some (z.cells.toList.map .v) else none

/-- Is it one cell? -/
def AV.flat : AV → Bool
  | .agg _ | .tup _ => false
  | .v x => x.oneCell'
  | _ => true
/-- A value's cells. -/
def AV.cells? : AV → Option (List AV)
  | .agg l => some l
  | x => if x.flat then some [x] else none

def AV.plain? : AV → Option Value
  | .v x => some x
  | _ => none
def toVal : AV → Option Value
  | .v x => some x
  | .agg l => (l.mapM AV.plain?).map fun xs => .agg xs.toArray
  | _ => none

def ofConst : Value → AV
  | .agg cs => if cs.all (·.oneCell') then .agg (cs.toList.map .v) else .v (.agg cs)
  | x => .v x
def aev (t : List AV) : Operand → Option AV
  | .tmp i => t[i]?
  | .const x => some (ofConst x)
  | .global g => some (.v (.pointer (some ⟨g, 0, none⟩)))
  | .func f => some (.fn f [])

/-- Cells from j on, as a value of type t. -/
def cut (P : Program) (t : TypeId) (e : List AV) (j : Nat) : Option AV :=
  match tagg P t, tsize P t with
  | some true, some n => if j + n ≤ e.length then some (.agg ((e.drop j).take n)) else none
  | some false, _ => e[j]?
  | _, _ => none

def asNat : AV → Option Nat
  | .v (.int _ i) => if 0 ≤ i then some i.toNat else none
  | _ => none

/-- A value as it is seen by a callee, or by who called: rows and variables are told by what they hold. The blocks that it leads to. -/
def snapD : Nat := 8
def snapL (f : AV → HM (AV × List Nat)) : List AV → HM (List AV × List Nat)
  | [] => .ret ([], [])
  | x :: l => (f x).bind fun a => (snapL f l).bind fun b => .ret (a.1 :: b.1, a.2 ++ b.2)
def snapLL (f : AV → HM (AV × List Nat)) : List (List AV) → HM (List (List AV) × List Nat)
  | [] => .ret ([], [])
  | x :: l => (snapL f x).bind fun a => (snapLL f l).bind fun b => .ret (a.1 :: b.1, a.2 ++ b.2)
def snap : Nat → AV → HM (AV × List Nat)
  | 0, _ => .bad
  | d + 1, x => match x with
    | .v (.slice none 0 0) => .ret (.fsl [], [])
    | .v y => .ret (.v y, [])
    | .agg l => (snapL (snap d) l).bind fun r => .ret (.agg r.1, r.2)
    | .tup l => (snapL (snap d) l).bind fun r => .ret (.tup r.1, r.2)
    | .fsl l => .ret (.fsl l, [])
    | .e0 => .ret (.fsl [], [])
    | .sl b k off len => .get b fun blk => if blk.k = k ∧ off + len ≤ blk.els.length then (snapLL (snap d) ((blk.els.drop off).take len)).bind fun r => .ret (.fsl r.1, b :: r.2) else .bad
    | .ptr b k i j => .get b fun blk => match blk.els[i]? with
      | some e => if blk.k = k then (snapL (snap d) e).bind fun r => .ret (.fptr r.1 j, b :: r.2) else .bad
      | none => .bad
    | .fptr l j => .ret (.fptr l j, [])
    | .ifc t y => (snap d y).bind fun r => .ret (.ifc t r.1, r.2)
    | .fn f c => (snapL (snap d) c).bind fun r => .ret (.fn f r.1, r.2)
def snaps (d : Nat) (l : List AV) : HM (List AV × List Nat) := snapL (snap d) l

def plainB : AV → Bool
  | .v _ => true
  | _ => false
def plainA : AV → Bool
  | .v _ => true
  | .agg l => l.all plainB
  | _ => false
/-- Does a value lead to memory? -/
def leads : AV → Bool
  | .v _ => false
  | .agg l => !l.all plainB
  | .tup l => !l.all plainA
  | _ => true

/-- The blocks that a callee has seen are only read from now on, if what it hands back leads to memory. -/
def freezes (bs : List Nat) : HM Ws :=
  match bs with
  | [] => .ret []
  | b :: r => .get b fun blk => (freezes r).bind fun ws => .ret (if blk.rw then (b, some { blk with rw := false }) :: ws else ws)

/-- A pure call: the callee has a memory of its own. cf: what the callee answers. -/
def acall (cf : List AV → Option AV) (args : List AV) : HM (AV × Ws) :=
  (snaps snapD args).bind fun a => match cf a.1 with
    | none => .bad
    | some r => if leads r then (freezes a.2).bind fun ws => .ret (r, ws) else .ret (r, [])

/-- The blocks that a value leads to. -/
def gathL (f : AV → HM (List (Nat × Blk))) : List AV → HM (List (Nat × Blk))
  | [] => .ret []
  | x :: l => (f x).bind fun a => (gathL f l).bind fun b => .ret (a ++ b)
def gath : Nat → AV → HM (List (Nat × Blk))
  | 0, _ => .bad
  | d + 1, x => match x with
    | .agg l => gathL (gath d) l
    | .tup l => gathL (gath d) l
    | .sl b _ _ _ => .get b fun blk => (gathL (gath d) blk.els.flatten).bind fun r => .ret ((b, blk) :: r)
    | .ptr b _ _ _ => .get b fun blk => (gathL (gath d) blk.els.flatten).bind fun r => .ret ((b, blk) :: r)
    | .ifc _ y => gath d y
    | .fn _ c => gathL (gath d) c
    | _ => .ret []
/-- Does a value lead to none but these numbers? -/
def lowL (f : AV → Bool) : List AV → Bool
  | [] => true
  | x :: l => f x && lowL f l
def low (ids : List Nat) : Nat → AV → Bool
  | 0, _ => false
  | d + 1, x => match x with
    | .agg l => lowL (low ids d) l
    | .tup l => lowL (low ids d) l
    | .sl b _ _ _ => ids.contains b
    | .ptr b _ _ _ => ids.contains b
    | .ifc _ y => low ids d y
    | .fn _ c => lowL (low ids d) c
    | _ => true
/-- Are two values surely the same? -/
def sameV : Value → Value → Bool
  | .int k i, .int k' i' => decide (k = k') && decide (i = i')
  | .bool a, .bool b => decide (a = b)
  | .slice none 0 0, .slice none 0 0 => true
  | .nilIface, .nilIface => true
  | _, _ => false
def sameL {α : Type} (f : α → α → Bool) : List α → List α → Bool
  | [], [] => true
  | x :: l, y :: m => f x y && sameL f l m
  | _, _ => false
def same : Nat → AV → AV → Bool
  | 0, _, _ => false
  | d + 1, x, y => match x, y with
    | .v a, .v b => sameV a b
    | .agg l, .agg m => sameL (same d) l m
    | .tup l, .tup m => sameL (same d) l m
    | .fsl l, .fsl m => sameL (sameL (same d)) l m
    | .e0, .e0 => true
    | .sl a b c e, .sl a' b' c' e' => decide ((a, b, c, e) = (a', b', c', e'))
    | .ptr a b c e, .ptr a' b' c' e' => decide ((a, b, c, e) = (a', b', c', e'))
    | _, _ => false
def topOf : List (Nat × Blk) → Nat
  | [] => 0
  | (b, _) :: r => max (b + 1) (topOf r)
def heapOf : List (Nat × Blk) → Heap → Heap
  | [], h => h
  | (b, x) :: r, h => heapOf r (h.set b (some x))
def backs (ids : List Nat) (h : Heap) : List (Nat × Blk) → Option Ws
  | [] => some []
  | (b, x) :: r => match h[b]?, backs ids h r with
    | some (some y), some ws => if x.rw && !(y.rw && x.k == y.k && sameL (sameL (same snapD)) x.els y.els) then (if lowL (low ids snapD) y.els.flatten then some ((b, some y) :: ws) else none) else some ws
    | _, _ => none
abbrev RF := FuncId → List AV → Heap → Option (AV × Heap)
/-- A call in place among others: the callee works on those of the caller's blocks that it is led to, and leaves none of its own in them. -/
def incall (cf : List AV → Heap → Option (AV × Heap)) (args : List AV) : HM (AV × Ws) :=
  (gathL (gath snapD) args).bind fun bs =>
    match cf args (heapOf bs (List.replicate (topOf bs) none)) with
    | some (r, h) => if low (bs.map (·.1)) snapD r then (HM.ofOption (backs (bs.map (·.1)) h bs)).bind fun ws => .ret (r, ws) else .bad
    | none => .bad

def evs (t : List AV) (xs : List Operand) : Option (List AV) := xs.mapM (aev t)

/-- An operation whose operands are all plain numbers (or aggregates of such): as the model has it. -/
def rho (t : List AV) (x : Operand) : Value := ((aev t x).bind toVal).getD undef
def scalar (P : Program) (o : Oper) (t : List AV) : Option AV :=
  if o.op.operands.all fun x => ((aev t x).bind toVal).isSome then
    match runP P (execOp (rho t) o) with
    | some (.value r) => some (ofConst r)
    | _ => none
  else none

def isNil : AV → Bool
  | .v (.slice none 0 0) => true
  | .e0 => true
  | _ => false

def newBlk (slot k : Nat) (els : List (List AV)) : Ws := [(slot, some ⟨k, true, els⟩)]

def fieldOf (P : Program) (s : TypeId) (f : Nat) : Option (Nat × TypeId) :=
  match P.underlying s with
  | some (.struct fs) => (fs[f]?).map fun x => (x.offset, x.type)
  | _ => none

/-- The elements of a slice. -/
def elems (x : AV) : HM (List (List AV)) :=
  match x with
  | .sl b k off n => .get b fun blk => if blk.k = k ∧ off + n ≤ blk.els.length then .ret ((blk.els.drop off).take n) else .bad
  | .fsl l => .ret l
  | .e0 => .ret []
  | .v (.slice none 0 0) => .ret []
  | _ => .bad

def fillAt (cells : List AV) : List (Nat × List AV) → Option (List AV)
  | [] => some cells
  | (o, c) :: r => if o + c.length ≤ cells.length then fillAt (cells.take o ++ c ++ cells.drop (o + c.length)) r else none

/-- A slice's length. -/
def alen : AV → Nat
  | .sl _ _ _ n => n
  | .fsl l => l.length
  | _ => 0
/-- A slice of a slice; z: no room is left behind it. -/
def subS (sz : Nat) (y : AV) (l h : Nat) (z : Bool) : Option AV :=
  match y with
  | .sl b k off _ => if z = true then some .e0 else if k = sz then some (.sl b k (off + l) (h - l)) else none
  | .fsl e => if z = true then some .e0 else if (e.head?.all fun c => c.length == sz) = true then some (.fsl ((e.take h).drop l)) else none
  | .e0 => some .e0
  | .v (.slice none 0 0) => some (.v (.slice none 0 0))
  | _ => none
/-- A bound of a slice. -/
def bnd (t : List AV) (q : Option Operand) (d : Nat) : HM Nat :=
  match q with
  | none => .ret d
  | some q => (HM.ofOption (aev t q)).bind fun z => .ofOption (asNat z)
/-- Where a part of a value lies, of how many cells. -/
def placeOf (P : Program) (ty : TypeId) (f : Nat) : Option (Nat × Nat) :=
  match P.underlying ty with
  | some (.struct fs) => (fs[f]?).bind fun x => (tsize P x.type).map fun n => (x.offset, n)
  | some (.array _ et) => (tsize P et).map fun n => (f * n, n)
  | _ => none
def partsOf (t : List AV) (pl : Nat → Option (Nat × Nat)) : List (Nat × Operand) → Option (List (Nat × List AV))
  | [] => some []
  | (f, x) :: r => match pl f, (aev t x).bind AV.cells?, partsOf t pl r with
    | some (off, n), some c, some l => if c.length = n then some ((off, c) :: l) else none
    | _, _, _ => none
def setsOf (t : List AV) (n len : Nat) : List (Nat × Operand) → List (List AV) → Option (List (List AV))
  | [], acc => some acc
  | (i, x) :: r, acc => match (aev t x).bind AV.cells? with
    | some c => if c.length = n ∧ i < len then setsOf t n len r (acc.set i c) else none
    | none => none

def aop (P : Program) (cf : FuncId → List AV → HM (AV × Ws)) (o : Oper) (t : List AV) (slot : Nat) : HM (AV × Ws) :=
  let ev (x : Operand) : HM AV := .ofOption (aev t x)
  let out (x : Option AV) : HM (AV × Ws) := (HM.ofOption x).bind fun r => .ret (r, [])
  match o.op with
  | .move x | .assign x => out (aev t x)
  | .pick c a b => (ev c).bind fun
    | .v (.bool true) => out (aev t a)
    | .v (.bool false) => out (aev t b)
    | _ => .bad
  | .extract x i => (ev x).bind fun
    | .tup l => out l[i]?
    | _ => .bad
  | .nilCheck x => (ev x).bind fun
    | .ptr b k i j => .ret (.ptr b k i j, [])
    | .fptr l j => .ret (.fptr l j, [])
    | _ => .bad
  | .makeInterface ty x => (ev x).bind fun y =>
    match P.underlying ty with
    | some (.interface _) => .bad
    | some _ => .ret (.ifc ty y, [])
    | none => .bad
  | .makeFunc (.func f) first cap => if first.size = 0 then (HM.ofOption (evs t cap.toList)).bind fun c => .ret (.fn f c, []) else .bad
  | .alloc ty => match zcells P ty with
    | some z => .ret (.ptr slot z.length 0 0, newBlk slot z.length [z])
    | none => .bad
  | .box _ x => (ev x).bind fun y => (HM.ofOption y.cells?).bind fun z => .ret (.ptr slot z.length 0 0, newBlk slot z.length [z])
  | .load ty x => (ev x).bind fun
    | .ptr b k i j => .get b fun blk => match blk.els[i]? with
      | some e => if blk.k = k then out (cut P ty e j) else .bad
      | none => .bad
    | .fptr l j => out (cut P ty l j)
    | _ => .bad
  | .store ty a x => (ev a).bind fun
    | .ptr b k i j => (ev x).bind fun y => (HM.ofOption y.cells?).bind fun c => .get b fun blk => match blk.els[i]?, tsize P ty with
      | some e, some n => if blk.k = k ∧ blk.rw = true ∧ c.length = n ∧ j + n ≤ e.length then .ret (.v undef, [(b, some { blk with els := blk.els.set i (e.take j ++ c ++ e.drop (j + n)) })]) else .bad
      | _, _ => .bad
    | _ => .bad
  | .fieldAddr s x f => (ev x).bind fun y => match fieldOf P s f with
    | none => .bad
    | some (off, ft) => match tsize P ft, y with
      | some (_ + 1), .ptr b k i j => .ret (.ptr b k i (j + off), [])
      | some (_ + 1), .fptr l j => .ret (.fptr l (j + off), [])
      | _, _ => .bad
  | .field s x f => (ev x).bind fun y => match fieldOf P s f, y with
    | some (off, ft), .agg l => out (cut P ft l off)
    | _, _ => .bad
  | .indexAddr ty x ix => (ev x).bind fun y => (ev ix).bind fun z => match asNat z, P.underlying ty with
    | some i, some (.slice et) => match tsize P et with
      | none => .bad
      | some n => if n = 0 then .bad else match y with
        | .sl b k off len => if k = n ∧ i < len then .ret (.ptr b k (off + i) 0, []) else .bad
        | .fsl l => match l[i]? with
          | some e => if e.length = n then .ret (.fptr e 0, []) else .bad
          | none => .bad
        | _ => .bad
    | some i, some (.array m et) => match tsize P et with
      | none => .bad
      | some n => if i < m ∧ n ≠ 0 then match y with
        | .ptr b k q j => .ret (.ptr b k q (j + i * n), [])
        | .fptr l j => .ret (.fptr l (j + i * n), [])
        | _ => .bad else .bad
    | _, _ => .bad
  | .index ty x ix => (ev x).bind fun y => (ev ix).bind fun z => match asNat z, P.underlying ty, y with
    | some i, some (.array m et), .agg l => match tsize P et with
      | some n => if i < m then out (cut P et l (i * n)) else .bad
      | none => .bad
    | _, _, _ => out (scalar P o t)
  | .slice ty x lo hi mx => (ev x).bind fun y => match P.underlying ty with
    | some (.slice et) => match tsize P et with
      | none => .bad
      | some sz =>
      (bnd t lo 0).bind fun l => (bnd t hi (alen y)).bind fun h => (bnd t mx (alen y)).bind fun m =>
        if l ≤ h ∧ h ≤ m ∧ m ≤ alen y ∧ (mx.isNone ∨ hi.isSome) then out (subS sz y l h (mx.isSome && m == l)) else .bad
    | _ => out (scalar P o t)
  | .build ty parts => match zcells P ty, P.underlying ty with
    | some z, some (.struct fs) => if (fs.toList.all fun f => (tsize P f.type).isSome) = true then out (((partsOf t (placeOf P ty) parts.toList).bind (fillAt z)).map .agg) else .bad
    | some z, some (.array _ et) => if (tsize P et).isSome = true then out (((partsOf t (placeOf P ty) parts.toList).bind (fillAt z)).map .agg) else .bad
    | _, _ => .bad
  | .buildSlice ty len parts => match P.underlying ty with
    | some (.slice et) => match tsize P et, zcells P et with
      | some n, some z =>
        if n = 0 ∨ len * n > 2 ^ 24 ∨ z.length ≠ n then .bad else
        (HM.ofOption (setsOf t n len parts.toList (List.replicate len z))).bind fun es => .ret (.sl slot n 0 len, newBlk slot n es)
      | _, _ => .bad
    | _ => .bad
  | .makeSlice ty ln cp => (ev ln).bind fun x => (ev cp).bind fun y => match x, y, P.underlying ty with
    | .v (.int .i64 a), .v (.int .i64 b), some (.slice et) => match P.info? et, tsize P et, zcells P et with
      | some inf, some n, some z => if a = b ∧ 0 ≤ a ∧ n ≠ 0 ∧ z.length = n ∧ a ≤ 2 ^ 40 ∧ inf.bytes * a ≤ 2 ^ 40 then .ret (.sl slot n 0 a.toNat, newBlk slot n (List.replicate a.toNat z)) else .bad
      | _, _, _ => .bad
    | _, _, _ => .bad
  | .call c => match c.callee with
    | .value f => (ev f).bind fun y => (HM.ofOption (evs t c.args.toList)).bind fun xs => match y with
      | .fn g cap => cf g (xs ++ cap)
      | _ => .bad
    | .builtin .len => match c.args.toList with
      | [a] => (ev a).bind fun y => match (c.argTypes[0]?).bind P.underlying, y with
        | some (.slice _), .sl _ _ _ n => .ret (.v (.int .i64 n), [])
        | some (.slice _), .fsl l => .ret (.v (.int .i64 l.length), [])
        | some (.slice _), .e0 => .ret (.v (.int .i64 0), [])
        | _, _ => out (scalar P o t)
      | _ => .bad
    | .builtin .append => match c.args.toList, c.argTypes.toList with
      | [a, b], [ta, tb] => (ev a).bind fun x => (ev b).bind fun y => match P.underlying ta, P.underlying tb with
        | some (.slice et), some (.slice _) => match P.info? et, tsize P et, zcells P et with
          | some inf, some n, some z =>
            if n = 0 ∨ inf.bytes = 0 ∨ z.length ≠ n then .bad else
            (elems y).bind fun ys => if ys.all (fun e => e.length == n) = true then match x with
              | .sl b k 0 len => if k = n then .get b fun blk => if blk.k = k ∧ blk.rw = true ∧ len ≤ blk.els.length ∧ (len + ys.length) * inf.bytes ≤ 2 ^ 40 then
                  .ret (.sl slot n 0 (len + ys.length), (b, none) :: newBlk slot n (blk.els.take len ++ ys)) else .bad else .bad
              | .e0 => if ys.isEmpty = true then .ret (.e0, []) else if ys.length * inf.bytes ≤ 2 ^ 40 then .ret (.sl slot n 0 ys.length, newBlk slot n ys) else .bad
              | .v (.slice none 0 0) => if ys.isEmpty = true then .ret (.v (.slice none 0 0), []) else if ys.length * inf.bytes ≤ 2 ^ 40 then .ret (.sl slot n 0 ys.length, newBlk slot n ys) else .bad
              | _ => .bad else .bad
          | _, _, _ => .bad
        | _, _ => .bad
      | _, _ => .bad
    | .builtin .copy => match c.args.toList, c.argTypes.toList with
      | [a, b], [ta, _] => (ev a).bind fun x => (ev b).bind fun y => match P.underlying ta with
        | some (.slice et) => match tsize P et with
          | some n =>
            (elems y).bind fun ys => if ys.all (fun e => e.length == n) = true then match x with
              | .sl b k off len => if k = n then .get b fun blk => if blk.k = k ∧ blk.rw = true ∧ off + len ≤ blk.els.length then
                  let m := min ys.length len
                  .ret (.v (.int .i64 m), [(b, some { blk with els := blk.els.take off ++ ys.take m ++ blk.els.drop (off + m) })]) else .bad else .bad
              | _ => .bad else .bad
          | none => .bad
        | _ => .bad
      | _, _ => .bad
    | .builtin .max | .builtin .min => out (scalar P o t)
    | _ => .bad
  | .binOp op ty x y _ => (ev x).bind fun a => (ev y).bind fun b => match op, a, b, P.underlying ty with
    | .eql, .ifc _ _, .v .nilIface, some (.interface _) => .ret (.v (.bool false), [])
    | .eql, .v .nilIface, .ifc _ _, some (.interface _) => .ret (.v (.bool false), [])
    | .neq, .ifc _ _, .v .nilIface, some (.interface _) => .ret (.v (.bool true), [])
    | .neq, .v .nilIface, .ifc _ _, some (.interface _) => .ret (.v (.bool true), [])
    | _, _, _, _ => out (scalar P o t)
  | .unOp .. | .convert .. => out (scalar P o t)
  | _ => .bad

/-- What an activation holds: its slots, its memory. -/
structure AS where
  t : List AV
  h : Heap

def applyWs (h : Heap) : Ws → Heap
  | [] => h
  | (b, x) :: r => applyWs (h.set b x) r

/-- Is a guarded operation wanted? -/
def awanted (ops : Array Oper) (o : Oper) (t : List AV) : Bool :=
  match o.guard with
  | none => true
  | some (j, want) => match ((ops[j]?).bind (·.dst)).bind (t[·]?) with
    | some (.v (.bool b)) => b == want
    | _ => false

def put (t : List AV) (dst : Option Tmp) (x : AV) : List AV :=
  match dst with
  | some d => t.set d x
  | none => t

/-- Which operation looks at which slots (its guard's too). -/
def looks (ops : Array Oper) (o : Oper) : List Tmp :=
  (o.op.operands.toList.filterMap fun | .tmp x => some x | _ => none) ++ (match o.guard with | some (j, _) => (((ops[j]?).bind (·.dst)).toList) | none => [])

/-- What the operations of a region came to: blocks read, blocks written. -/
structure Foot where
  rs : List Nat
  ws : List Nat

def meets (a b : List Nat) : Bool := a.any fun x => b.contains x
/-- May operations i and j not change places, whatever the edges say? -/
def conflict (ops : Array Oper) (fs : List Foot) (i j : Nat) : Bool :=
  match ops[i]?, ops[j]?, fs[i]?, fs[j]? with
  | some oi, some oj, some fi, some fj =>
    (match oj.dst with | some d => (looks ops oi).contains d || oi.dst == some d | none => false) || (match oi.dst with | some d => (looks ops oj).contains d | none => false) ||
    meets fj.ws fi.rs || meets fj.ws fi.ws || meets fi.ws fj.rs
  | _, _, _, _ => true
/-- Every edge that binds goes to an earlier operation. -/
def edgesOk : Nat → List Oper → Bool
  | _, [] => true
  | d, o :: r => (o.after.toList.all fun e => !Region.binds .any e || decide (e.on < d)) && edgesOk (d + 1) r
/-- Any order that the edges let gives the same. -/
def anyOrder (ops : Array Oper) (fs : List Foot) : Bool :=
  let bef := Region.before ops
  edgesOk 0 ops.toList && (List.range ops.size).all fun j => (List.range j).all fun i => (bef.getD j 0).testBit i || !conflict ops fs i j

/-- The operations in the text's order; slot: the number of the first one's own block. -/
def aops (P : Program) (cf : FuncId → List AV → HM (AV × Ws)) (ops : Array Oper) : List Oper → Nat → AS → List Foot → Option (AS × List Foot)
  | [], _, s, fs => some (s, fs.reverse)
  | o :: r, slot, s, fs =>
    if awanted ops o s.t then
      match (aop P cf o s.t slot).run s.h with
      | some ((x, ws), rs) => aops P cf ops r (slot + 1) ⟨put s.t o.dst x, applyWs s.h ws⟩ (⟨rs, ws.map (·.1)⟩ :: fs)
      | none => none
    else aops P cf ops r (slot + 1) ⟨put s.t o.dst (.v undef), s.h⟩ (⟨[], []⟩ :: fs)

/-- What the program is, what it may call in place, how many rounds at the most. -/
structure Sys where
  P : Program
  inl : FuncId → Bool
  N : Nat
  G : FuncId → Option (List AV → Option AV)

/-- A call with a memory of its own; what it hands back is told by what it holds. -/
def pure_ (rf : RF) (g : FuncId) (args : List AV) : Option AV :=
  match rf g args [] with
  | some (r, h) => match (snap snapD r).run h with
    | some ((x, _), _) => some x
    | none => none
  | none => none

/-- A call, of a function that a region may call among others. -/
def callf (S : Sys) (rf : RF) (g : FuncId) (xs : List AV) : HM (AV × Ws) :=
  match S.G g with
  | some f => acall f xs
  | none => if S.inl g then incall (rf g) xs else acall (pure_ rf g) xs

/-- A call in place: the callee works on the caller's memory. -/
def inplace (S : Sys) (rf : RF) (o : Oper) (s : AS) : Option (AV × Heap) :=
  match o.op with
  | .call c => match c.callee with
    | .value f => match aev s.t f, evs s.t c.args.toList with
      | some (.fn g cap), some xs => if S.inl g then rf g (xs ++ cap) s.h else none
      | _, _ => none
    | _ => none
  | _ => none

/-- A region whose order is the text's, with calls in place. -/
def aseq (S : Sys) (rf : RF) (ops : Array Oper) : List Oper → AS → Option AS
  | [], s => some s
  | o :: r, s =>
    if awanted ops o s.t then
      match inplace S rf o s with
      | some (x, h) => aseq S rf ops r ⟨put s.t o.dst x, h⟩
      | none => match (aop S.P (callf S rf) o s.t s.h.length).run (s.h ++ [none]) with
        | some ((x, ws), _) => aseq S rf ops r ⟨put s.t o.dst x, applyWs (s.h ++ [none]) ws⟩
        | none => none
    else aseq S rf ops r ⟨put s.t o.dst (.v undef), s.h⟩

def aregion (S : Sys) (rf : RF) (ops : Array Oper) (draw : Bool) (s : AS) : Option AS :=
  if draw then
    match aops S.P (callf S rf) ops ops.toList s.h.length ⟨s.t, s.h ++ List.replicate ops.size none⟩ [] with
    | some (s', fs) => if anyOrder ops fs then some s' else none
    | none => none
  else aseq S rf ops ops.toList s

inductive Ex where
  | normal
  | exit (id : Nat)
  | ret
  deriving DecidableEq

/-- Rounds of a loop. -/
def rounds (f : AS → Option (Ex × AS)) : Nat → AS → Option (Ex × AS)
  | 0, _ => none
  | n + 1, s => match f s with
    | some (.normal, s') => rounds f n s'
    | r => r

def aexec (S : Sys) (rf : RF) : Code → AS → Option (Ex × AS)
  | .skip, s => some (.normal, s)
  | .region _ ops draw, s => (aregion S rf ops draw s).map fun s' => (.normal, s')
  | .seq a b, s => match aexec S rf a s with
    | some (.normal, s') => aexec S rf b s'
    | r => r
  | .cond c a b, s => match aev s.t c with
    | some (.v (.bool true)) => aexec S rf a s
    | some (.v (.bool false)) => aexec S rf b s
    | _ => none
  | .block id a, s => match aexec S rf a s with
    | some (.exit i, s') => if i = id then some (.normal, s') else some (.exit i, s')
    | r => r
  | .loop a, s => rounds (aexec S rf a) S.N s
  | .exit id, s => some (.exit id, s)
  | .ret, s => some (.ret, s)
  | _, _ => none

/-- What a function hands back. -/
def aresult (P : Program) (s : AS) : ResultVar → Option AV
  | .tmp x => s.t[x]?
  | .cell a t => match s.t[a]? with
    | some (.ptr b k i j) => match s.h[b]? with
      | some (some blk) => match blk.els[i]? with
        | some e => if blk.k = k then cut P t e j else none
        | none => none
      | _ => none
    | _ => none

def aresults (P : Program) (fn : Func) (s : AS) : Option AV :=
  match fn.results.toList.mapM (aresult P s) with
  | some [x] => some x
  | some l => some (.tup l)
  | none => none

/-- A call of function f, at most d deep, on memory h. -/
def arun (S : Sys) : Nat → RF
  | 0, _, _, _ => none
  | d + 1, f, args, h => match S.P.funcs[f]? with
    | some fn => match fn.body with
      | some c => if fn.name = "runtime.NumGoroutine" then none else
        match aexec S (arun S d) c ⟨args ++ List.replicate (fn.ntmps - args.length) (.v undef), h⟩ with
        | some (.normal, s) | some (.ret, s) => (aresults S.P fn s).map fun r => (r, s.h)
        | _ => none
      | none => none
    | none => none

/-- What function f answers, at most d calls deep. -/
def ev (S : Sys) (d : Nat) (f : FuncId) (args : List AV) : Option AV := pure_ (arun S d) f args
end Go.Proofs.YtjhekjhbjaengaaGreatDoor.Ev
