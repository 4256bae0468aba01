/- A part of the proof: AIDefs. -/
import Derived.Recover
import Derived.Orders
set_option linter.all false
section
/-! Abstract values and an abstract run of the model's code: no memory addresses, no order, no capacities. -/
namespace Go.AI
open Go

/-- An abstract value. `v`: just this value; `ptr`: into a variable or a row of the abstract heap; `sl`: a slice whose cells stay; `asl`: a row of the abstract heap that may be appended to; `bsl`: a slice of an array that is a variable; `ap`: a pointer into such a row; `ep`: a pointer into cells that stay. -/
inductive AV where
  | top
  | v (x : Value)
  | ptr (id off : Nat)
  | sl (n : Nat) (cells : List AV)
  | asl (id n : Nat)
  | bsl (id off n : Nat)
  | ap (id n off : Nat)
  | ep (cells : List AV)
  | fn (f : Fn) (first cap : List AV)
  | ifc (t : TypeId) (x : AV)
  | mp (id : Nat)
  | agg (cells : List AV)
  | tup (vs : List AV)
  deriving Inhabited

/-- What lies in the abstract heap. -/
inductive AObj where
  | box (t : TypeId) (cells : List AV)
  | arr (e : TypeId) (n : Nat) (fz : Bool) (cells : List AV)
  | map (es : List (Value × AV))
  | dead
  deriving Inhabited

abbrev Heap := List AObj

structure Env where
  P : Program
  /-- the functions that are entered -/
  code : FuncId → Option (Func × Code)
  /-- what gives back what it is given -/
  noesc : FuncId → Bool
  /-- what the run-time does -/
  ext : FuncId → List Value → Option Value
  /-- the cells of variables that are never written -/
  glob : Nat → List AV
  /-- says so only where two are one -/
  same : AV → AV → Bool
  sameH : Heap → Heap → Bool

def AV.cells? : AV → Option (List AV)
  | .top => none
  | .agg cs => some cs
  | .v (.agg cs) => some (cs.toList.map .v)
  | x => some [x]

def un1 : AV → Option Value
  | .v x => some x
  | .ifc t (.v x) => some (.iface t x)
  | _ => none

def unL : List AV → Option (List Value)
  | [] => some []
  | x :: xs => match un1 x, unL xs with
    | some y, some ys => some (y :: ys)
    | _, _ => none

/-- The value itself, where it is known. -/
def AV.un : AV → Option Value
  | .v x => some x
  | .agg cs => (unL cs).map fun l => .agg l.toArray
  | .ifc t x => match x with
    | .v y => some (.iface t y)
    | .agg cs => (unL cs).map fun l => .iface t (.agg l.toArray)
    | _ => none
  | _ => none

def conv1 : Value → AV
  | .iface t x => .ifc t (match x with
    | .agg cs => .agg (cs.toList.map .v)
    | y => .v y)
  | x => .v x

def convA : Value → AV
  | .agg cs => .agg (cs.toList.map conv1)
  | x => conv1 x

/-- A known value as an abstract one. -/
def conv : Value → AV
  | .tuple vs => .tup (vs.toList.map convA)
  | x => convA x

/-- A computation that neither reads nor writes nor asks. -/
def quiet {α : Type} (P : Program) : Sem α → Option α
  | .pure a => some a
  | .program k => quiet P (k P)
  | .mark _ k => quiet P k
  | _ => none

theorem quiet_run {α : Type} {P : Program} (s : Sem α) : ∀ {a : α}, quiet P s = some a → ∀ w : World, s.run P w = .ok a w := by
  induction s with
  | pure a => intro b h w; simp only [quiet, Option.some.injEq] at h; subst h; rfl
  | program k ih => intro b h w; exact ih P h w
  | mark m k ih => intro b h w; exact ih h w
  | load m a k ih => intro b h; simp [quiet] at h
  | store m a v k ih => intro b h; simp [quiet] at h
  | new o k ih => intro b h; simp [quiet] at h
  | shape r k ih => intro b h; simp [quiet] at h
  | freeze a n k ih => intro b h; simp [quiet] at h
  | frozen a k ih => intro b h; simp [quiet] at h
  | getObj r k ih => intro b h; simp [quiet] at h
  | setObj r o k ih => intro b h; simp [quiet] at h
  | choose q k ih => intro b h; simp [quiet] at h
  | sys c k ih => intro b h; simp [quiet] at h
  | halt x => intro b h; simp [quiet] at h

def aval (E : Env) (tm : List AV) : Operand → AV
  | .tmp t => tm.getD t (.v undef)
  | .const x => conv x
  | .global g => .ep (E.glob g)
  | .func f => .fn (.func f) [] []

/-- What an operation comes to. -/
inductive ARes where
  | val (x : AV)
  | skip
  | dfr (f : Fn) (cap args : List AV)
  | enter (f : FuncId) (args : List AV)
  | pan (x : AV)
  | recov
  deriving Inhabited

def isAggT (P : Program) (t : TypeId) : Option Bool := (P.underlying t).map fun
  | .struct _ | .array _ _ => true
  | _ => false
def sizeT (P : Program) (t : TypeId) : Option Nat := (P.info? t).map (·.size)
def zeroT (P : Program) (t : TypeId) : Option Value := (P.info? t).bind (·.zero)

def byteT (P : Program) (t : TypeId) : Bool := match P.underlying t with
  | some (.int .u8) => true
  | _ => false

/-- A variable of type t that begins at cells. -/
def aload (P : Program) (t : TypeId) (cells : List AV) (off : Nat) : Option AV :=
  match isAggT P t, sizeT P t with
  | some true, some n => if off + n ≤ cells.length then some (.agg ((cells.drop off).take n)) else none
  | some false, some _ => cells[off]?
  | _, _ => none

/-- Is it the value of one cell? -/
def AV.one : AV → Bool
  | .top => false
  | .agg _ => false
  | .tup _ => false
  | .v (.agg _) => false
  | .v (.tuple _) => false
  | _ => true

def splice (cells : List AV) (off : Nat) (xs : List AV) : List AV := cells.take off ++ xs ++ cells.drop (off + xs.length)

def astore (P : Program) (t : TypeId) (cells : List AV) (off : Nat) (x : AV) : Option (List AV) :=
  match x.cells?, sizeT P t with
  | some xs, some n => if xs.length = n ∧ off + n ≤ cells.length ∧ xs.all AV.one = true then some (splice cells off xs) else none
  | _, _ => none

def afill (place : Nat → Option (Nat × Nat)) (cells : List AV) : List (Nat × AV) → Option (List AV)
  | [] => some cells
  | (i, x) :: rest => match place i, x.cells? with
    | some (off, size), some xs => if xs.length = size ∧ off + xs.length ≤ cells.length then afill place (splice cells off xs) rest else none
    | _, _ => none

def repeatCells (z : List AV) : Nat → List AV
  | 0 => []
  | n + 1 => z ++ repeatCells z n

def bytesAV (s : ByteArray) : List AV := s.data.toList.map fun b => .v (.int .u8 b.toNat)

/-- Bytes out of cells that hold them. -/
def byteCells : List AV → Option (List UInt8)
  | [] => some []
  | .v (.int .u8 n) :: r => if 0 ≤ n ∧ n ≤ 255 then (byteCells r).map (UInt8.ofNat n.toNat :: ·) else none
  | _ :: _ => none

def keyEq : Value → Value → Option Bool
  | .int k a, .int k' b => if k = k' then some (a == b) else none
  | .string a, .string b => some (a == b)
  | .bool a, .bool b => some (a == b)
  | _, _ => none

def keyKind : TypeDesc → Value → Bool
  | .int _, .int _ _ => true
  | .string, .string _ => true
  | .bool, .bool _ => true
  | _, _ => false

/-- Where a key stands; none inside: nowhere; none outside: it can't be told. -/
def findKeyA (k : Value) : List (Value × AV) → Nat → Option (Option (Nat × AV))
  | [], _ => some none
  | e :: es, i => match keyEq k e.1 with
    | some true => some (some (i, e.2))
    | some false => findKeyA k es (i + 1)
    | none => none

def otherRow : AV → Nat → Bool
  | .asl id' _, id => id' != id
  | _, _ => true

def appendT : Option TypeDesc → Bool
  | some (.slice _) => true
  | some .string => true
  | _ => false

def appendCells (H : Heap) : AV → Option (Nat × List AV)
  | .sl m cs => some (m, cs)
  | .asl id m => match H[id]? with
    | some (.arr _ m' _ cs) => if m' = m then some (m, cs) else none
    | _ => none
  | .v (.string s) => some (s.size, bytesAV s)
  | .v (.slice none 0 0) => some (0, [])
  | _ => none

/-- A part of a struct or an array that is a value. -/
def apart (P : Program) (t : TypeId) (cs : List AV) (off : Nat) : Option AV := aload P t cs off

def adeclen (x : AV) : Option Nat := match x with
  | .sl n _ => some n
  | .asl _ n => some n
  | _ => none

/-- One operation: what it comes to, and the heap behind it. -/
def aop (E : Env) (ρ : Operand → AV) (o : Oper) (H : Heap) : Option (ARes × Heap) :=
  let P := E.P
  match o.op with
  | .move x | .assign x => some (.val (ρ x), H)
  | .pick c a b => match ρ c with
    | .v (.bool t) => some (.val (if t then ρ a else ρ b), H)
    | _ => none
  | .alloc t => match zeroT P t with
    | some z => match (conv z).cells? with
      | some cs => some (.val (.ptr H.length 0), H ++ [.box t cs])
      | none => none
    | none => none
  | .box t x => match (ρ x).cells? with
    | some cs => some (.val (.ptr H.length 0), H ++ [.box t cs])
    | none => none
  | .build t parts => match zeroT P t, P.underlying t with
    | some z, some (.struct fields) =>
      match (conv z).cells?, fields.toList.mapM (fun f => (sizeT P f.type).map fun n => (f.offset, n)) with
      | some zs, some places => match afill (places[·]?) zs (parts.toList.map fun p => (p.1, ρ p.2)) with
        | some cs => some (.val (.agg cs), H)
        | none => none
      | _, _ => none
    | some z, some (.array _ e) => match (conv z).cells?, sizeT P e with
      | some zs, some size => match afill (fun i => some (i * size, size)) zs (parts.toList.map fun p => (p.1, ρ p.2)) with
        | some cs => some (.val (.agg cs), H)
        | none => none
      | _, _ => none
    | _, _ => none
  | .buildSlice t len parts => match P.underlying t with
    | some (.slice e) => match sizeT P e, zeroT P e with
      | some size, some z => match (conv z).cells? with
        | some zs => if len * size ≤ 2 ^ 24 ∧ zs.length = size then
            match afill (fun i => some (i * size, size)) (repeatCells zs len) (parts.toList.map fun p => (p.1, ρ p.2)) with
            | some cs => if byteT P e && parts.all (fun p => Region.isConst p.2) && decide (len ≤ 2 ^ 24) then some (.val (.asl H.length len), H ++ [.arr e len false cs]) else some (.val (.sl len cs), H)
            | none => none
          else none
        | none => none
      | _, _ => none
    | _ => none
  | .load t a => match ρ a with
    | .ptr id off => match H[id]? with
      | some (.box _ cs) => (aload P t cs off).map fun x => (.val x, H)
      | _ => none
    | .ap id n off => match H[id]? with
      | some (.arr _ n' _ cs) => if n' = n then (aload P t cs off).map fun x => (.val x, H) else none
      | _ => none
    | .ep cs => (aload P t cs 0).map fun x => (.val x, H)
    | _ => none
  | .store t a x => match ρ a with
    | .ptr id off => match H[id]? with
      | some (.box u cs) => (astore P t cs off (ρ x)).map fun cs' => (.skip, H.set id (.box u cs'))
      | _ => none
    | .ap id n off => match H[id]? with
      | some (.arr e' n' fz cs) => if n' = n ∧ fz = false then (astore P t cs off (ρ x)).map fun cs' => (.skip, H.set id (.arr e' n fz cs')) else none
      | _ => none
    | _ => none
  | .nilCheck x => match ρ x with
    | .ptr id off => some (.val (.ptr id off), H)
    | .ap id n off => some (.val (.ap id n off), H)
    | .ep cs => some (.val (.ep cs), H)
    | .fn (.func f) a b => some (.val (.fn (.func f) a b), H)
    | .ifc t y => some (.val (.ifc t y), H)
    | _ => none
  | .binOp op t x y _ => match (ρ x).un, (ρ y).un with
    | some a, some b => (quiet P (do eqGuard op t x y a b; binOp op t a b)).map fun r => (.val (conv r), H)
    | _, _ => match op, ρ x, ρ y with
      | .eql, .ptr .., .v (.pointer none) | .eql, .ap .., .v (.pointer none) | .eql, .ep .., .v (.pointer none)
      | .eql, .v (.pointer none), .ptr .. | .eql, .v (.pointer none), .ap .. | .eql, .v (.pointer none), .ep .. => match P.underlying t with
        | some (.pointer _) => some (.val (.v (.bool false)), H)
        | _ => none
      | .neq, .ptr .., .v (.pointer none) | .neq, .ap .., .v (.pointer none) | .neq, .ep .., .v (.pointer none)
      | .neq, .v (.pointer none), .ptr .. | .neq, .v (.pointer none), .ap .. | .neq, .v (.pointer none), .ep .. => match P.underlying t with
        | some (.pointer _) => some (.val (.v (.bool true)), H)
        | _ => none
      | .eql, .ptr i j, .ptr k l => match P.underlying t with
        | some (.pointer e) => match sizeT P e with
          | some (_ + 1) => if i = k ∧ j = l then some (.val (.v (.bool true)), H) else none
          | _ => none
        | _ => none
      | .neq, .ptr i j, .ptr k l => match P.underlying t with
        | some (.pointer e) => match sizeT P e with
          | some (_ + 1) => if i = k ∧ j = l then some (.val (.v (.bool false)), H) else none
          | _ => none
        | _ => none
      | .eql, .ifc .., .v .nilIface | .eql, .v .nilIface, .ifc .. => match P.underlying t with
        | some (.interface _) => some (.val (.v (.bool false)), H)
        | _ => none
      | .neq, .ifc .., .v .nilIface | .neq, .v .nilIface, .ifc .. => match P.underlying t with
        | some (.interface _) => some (.val (.v (.bool true)), H)
        | _ => none
      | _, _, _ => none
  | .unOp op _ x => match (ρ x).un with
    | some a => (quiet P (Op.unary op a)).map fun r => (.val (conv r), H)
    | none => none
  | .convert s d x => match P.underlying s, P.underlying d, ρ x with
    | some .string, some (.slice e), .v (.string b) => match P.underlying e with
      | some (.int .u8) => some (.val (.sl b.size (bytesAV b)), H)
      | _ => none
    | some (.slice _), some (.slice e), .asl id n => match P.underlying e, H[id]? with
      | some (.int .u8), some (.arr e' n' _ cs) => if s = d ∧ n' = n then some (.val (.asl id n), H.set id (.arr e' n true cs)) else none
      | _, _ => none
    | some (.slice e), some .string, .sl n cs => match P.underlying e, byteCells cs with
      | some (.int .u8), some bs => if bs.length = n then some (.val (.v (.string ⟨bs.toArray⟩)), H) else none
      | _, _ => none
    | some (.slice e), some .string, .bsl id off n => match P.underlying e, H[id]? with
      | some (.int .u8), some (.box _ cs) => if off + n ≤ cs.length then match byteCells ((cs.drop off).take n) with
          | some bs => if bs.length = n then some (.val (.v (.string ⟨bs.toArray⟩)), H) else none
          | none => none
        else none
      | _, _ => none
    | some (.slice e), some .string, .asl id n => match P.underlying e, H[id]? with
      | some (.int .u8), some (.arr _ n' _ cs) => if n' = n then match byteCells cs with
          | some bs => if bs.length = n then some (.val (.v (.string ⟨bs.toArray⟩)), H) else none
          | none => none
        else none
      | _, _ => none
    | some (.pointer t), some .unsafePointer, .ptr id off => match sizeT P t, H[id]? with
      | some (_ + 1), some (.box _ cs) => if off < cs.length then some (.val (.ptr id off), H) else none
      | _, _ => none
    | some .unsafePointer, some (.pointer u), .ptr id off => match sizeT P u, H[id]? with
      | some (_ + 1), some (.box t cs) => if liesAt P P.depth t (cs.length / P.cellsOf t) off u 1 then some (.val (.ptr id off), H) else none
      | _, _ => none
    | _, _, y => match y.un with
      | some a => (quiet P (convert s d a)).map fun r => (.val (conv r), H)
      | none => none
  | .makeInterface t x => match P.underlying t with
    | some (.interface _) | none => none
    | _ => match ρ x with
      | .top => none
      | y => some (.val (.ifc t y), H)
  | .makeFunc f first cap => some (.val (.fn f (first.toList.map ρ) (cap.toList.map ρ)), H)
  | .makeMap _ r => match r with
    | none => some (.val (.mp H.length), H ++ [.map []])
    | some _ => none
  | .makeSlice t l c => match P.underlying t, (ρ l).un, (ρ c).un with
    | some (.slice e), some (.int .i64 l), some (.int .i64 c) => match P.info? e with
      | some i => match i.zero.bind fun z => (conv z).cells? with
        | some zs => if 0 ≤ l ∧ l ≤ c ∧ c * i.bytes ≤ 2 ^ 47 ∧ c ≤ 2 ^ 47 ∧ zs.length = i.size then
            some (.val (.asl H.length l.toNat), H ++ [.arr e l.toNat false (repeatCells zs l.toNat)])
          else none
        | none => none
      | none => none
    | _, _, _ => none
  | .slice t x lo hi mx => match mx with
    | some _ => none
    | none => match ρ x with
      | .sl n cs => match P.underlying t with
        | some (.slice e) => match sizeT P e, (lo.map ρ).getD (.v (.int .i64 0)), (hi.map ρ).getD (.v (.int .i64 n)) with
          | some size, .v (.int _ l), .v (.int _ h) => if 0 ≤ l ∧ l ≤ h ∧ h ≤ n then
              some (.val (.sl (h.toNat - l.toNat) ((cs.drop (l.toNat * size)).take ((h.toNat - l.toNat) * size))), H)
            else none
          | _, _, _ => none
        | _ => none
      | .ptr id off => match P.underlying t with
        | some (.array len e) => match sizeT P e, (lo.map ρ).getD (.v (.int .i64 0)), (hi.map ρ).getD (.v (.int .i64 len)) with
          | some size, .v (.int _ l), .v (.int _ h) => if 0 ≤ l ∧ l ≤ h ∧ h ≤ len ∧ l < len then
              some (.val (.bsl id (off + l.toNat * size) (h.toNat - l.toNat)), H)
            else none
          | _, _, _ => none
        | _ => none
      | y => match y.un with
        | some a => match (match lo with | none => some none | some q => ((ρ q).un).map some), (match hi with | none => some none | some q => ((ρ q).un).map some) with
          | some l, some h => (quiet P (Instr.sliceAt t a l h none)).map fun r => (.val (conv r), H)
          | _, _ => none
        | none => none
  | .fieldAddr s x i => match P.underlying s with
    | some (.struct fields) => match fields[i]? with
      | some f => match sizeT P f.type with
        | some (_ + 1) => match ρ x with
          | .ptr id off => some (.val (.ptr id (off + f.offset)), H)
          | .ap id n off => some (.val (.ap id n (off + f.offset)), H)
          | .ep cs => some (.val (.ep (cs.drop f.offset)), H)
          | _ => none
        | _ => none
      | none => none
    | _ => none
  | .field t x i => match P.underlying t, ρ x with
    | some (.struct fields), .agg cs => match fields[i]? with
      | some f => (aload P f.type cs f.offset).map fun r => (.val r, H)
      | none => none
    | _, _ => none
  | .indexAddr t x ix => match P.underlying t, ρ ix with
    | some (.slice e), .v (.int _ i) => match sizeT P e with
      | some (size + 1) => match ρ x with
        | .sl n cs => if 0 ≤ i ∧ i < n ∧ (i.toNat + 1) * (size + 1) ≤ cs.length then some (.val (.ep (cs.drop (i.toNat * (size + 1)))), H) else none
        | .asl id n => if 0 ≤ i ∧ i < n then some (.val (.ap id n (i.toNat * (size + 1))), H) else none
        | .bsl id off n => if 0 ≤ i ∧ i < n then some (.val (.ptr id (off + i.toNat * (size + 1))), H) else none
        | _ => none
      | _ => none
    | some (.array len e), .v (.int _ i) => match sizeT P e with
      | some size => if 0 ≤ i ∧ i < len then match ρ x with
          | .ptr id off => some (.val (.ptr id (off + i.toNat * size)), H)
          | .ap id n off => some (.val (.ap id n (off + i.toNat * size)), H)
          | .ep cs => some (.val (.ep (cs.drop (i.toNat * size))), H)
          | _ => none
        else none
      | none => none
    | _, _ => none
  | .index t x ix => match (ρ x).un, (ρ ix).un with
    | some a, some i => (quiet P (Instr.index t a i)).map fun r => (.val (conv r), H)
    | _, _ => none
  | .lookup t m k ok => match P.underlying t, (ρ k).un with
    | some (.map kt e), some key => match P.underlying kt, zeroT P e with
      | some kd, some z => if keyKind kd key then
          match (match ρ m with | .mp id => (match H[id]? with | some (.map es) => some es | _ => none) | .v (.map none) => some [] | _ => none) with
          | some es => match findKeyA key es 0 with
            | some (some (_, y)) => some (.val (if ok then .tup [y, .v (.bool true)] else y), H)
            | some none => some (.val (if ok then .tup [conv z, .v (.bool false)] else conv z), H)
            | none => none
          | none => none
        else none
      | _, _ => none
    | _, _ => none
  | .mapUpdate t m k x => match P.underlying t, (ρ k).un, ρ m with
    | some (.map kt _), some key, .mp id => match P.underlying kt, H[id]? with
      | some kd, some (.map es) => if keyKind kd key then
          match findKeyA key es 0 with
          | some (some (i, _)) => some (.skip, H.set id (.map (es.set i (key, ρ x))))
          | some none => some (.skip, H.set id (.map (es ++ [(key, ρ x)])))
          | none => none
        else none
      | _, _ => none
    | _, _, _ => none
  | .typeAssert x _ t ok => match P.underlying t, ρ x with
    | some (.interface _), _ => none
    | none, _ => none
    | _, .ifc u y => if u = t then some (.val (if ok then .tup [y, .v (.bool true)] else y), H)
        else if ok then (zeroT P t).map fun z => (.val (.tup [conv z, .v (.bool false)]), H) else none
    | _, .v .nilIface => if ok then (zeroT P t).map fun z => (.val (.tup [conv z, .v (.bool false)]), H) else none
    | _, _ => none
  | .extract x i => match ρ x with
    | .tup vs => (vs[i]?).map fun y => (.val y, H)
    | _ => none
  | .panic x => match ρ x with
    | .ifc t y => some (.pan (.ifc t y), H)
    | _ => none
  | .defer c => match c.callee with
    | .value f => match ρ f with
      | .fn g first cap => some (.dfr g cap (first ++ c.args.toList.map ρ), H)
      | _ => none
    | _ => none
  | .call c => match c.callee with
    | .value f => match ρ f with
      | .fn (.func g) first cap => match E.code g with
        | some _ => some (.enter g (first ++ c.args.toList.map ρ ++ cap), H)
        | none => if E.noesc g = true then match first ++ c.args.toList.map ρ ++ cap with
            | [.ptr id off] => some (.val (.ptr id off), H)
            | _ => none
          else match unL (first ++ c.args.toList.map ρ ++ cap) with
            | some vs => (E.ext g vs).map fun r => (.val (conv r), H)
            | none => none
      | _ => none
    | .builtin .append => match c.args.toList, c.argTypes.toList with
      | [s, x], [t, u] => match P.underlying t, appendT (P.underlying u) with
        | some (.slice e), true => match P.info? e, appendCells H (ρ x) with
          | some i, some (m, ys) => match ρ s with
            | .v (.slice none 0 0) => if (i.zero.map fun z => z.cells.size) = some i.size ∧ ys.length = m * i.size ∧ ys.all AV.one = true ∧ i.size ≠ 0 ∧ m * i.bytes ≤ 2 ^ 46 ∧ m ≤ 2 ^ 46 then
                (if m = 0 then some (.val (.v (.slice none 0 0)), H) else some (.val (.asl H.length m), H ++ [.arr e m false ys])) else none
            | .asl id n => match H[id]? with
              | some (.arr e' n' fz cs) => if (i.zero.map fun z => z.cells.size) = some i.size ∧ e' = e ∧ n' = n ∧ fz = false ∧ cs.length = n * i.size ∧ ys.length = m * i.size ∧ ys.all AV.one = true ∧ i.size ≠ 0 ∧ (n + m) * i.bytes ≤ 2 ^ 46 ∧ n + m ≤ 2 ^ 46 ∧ otherRow (ρ x) id = true then
                  some (.val (.asl id (n + m)), H.set id (.arr e (n + m) false (cs ++ ys))) else none
              | _ => none
            | _ => none
          | _, _ => none
        | _, _ => none
      | _, _ => none
    | .builtin .len => match c.args.toList, c.argTypes.toList with
      | [x], [t] => match ρ x with
        | .sl n _ | .asl _ n | .bsl _ _ n => match P.underlying t with
          | some (.slice _) => some (.val (.v (goInt n)), H)
          | _ => none
        | .mp id => match P.underlying t, H[id]? with
          | some (.map _ _), some (.map es) => some (.val (.v (goInt es.length)), H)
          | _, _ => none
        | y => match y.un with
          | some a => (quiet P (Builtin.len_ c.argTypes o.type #[a])).map fun r => (.val (conv r), H)
          | none => none
      | _, _ => none
    | .builtin .min => match unL (c.args.toList.map ρ) with
      | some vs => (quiet P (Builtin.min_ c.argTypes o.type vs.toArray)).map fun r => (.val (conv r), H)
      | none => none
    | .builtin .max => match unL (c.args.toList.map ρ) with
      | some vs => (quiet P (Builtin.max_ c.argTypes o.type vs.toArray)).map fun r => (.val (conv r), H)
      | none => none
    | .builtin .unsafeSliceData => match c.args.toList with
      | [x] => match ρ x with
        | .asl id (n + 1) => match H[id]? with
          | some (.arr _ n' _ _) => if n' = n + 1 then some (.val (.ap id (n + 1) 0), H) else none
          | _ => none
        | .v (.slice none _ _) => some (.val (.v (.pointer none)), H)
        | _ => none
      | _ => none
    | .builtin .unsafeString => match c.args.toList, c.argTypes.toList with
      | [x, k], [pt, _] => match ρ x, (ρ k).un with
        | .ap id n 0, some (.int .i64 m) => match H[id]?, P.underlying pt with
          | some (.arr e n' _ cs), some (.pointer u) => match byteCells cs with
            | some bs => if u = e ∧ n' = n ∧ m = n ∧ 0 < n ∧ m ≤ 9223372036854775807 ∧ P.cellsOf e = 1 ∧ sizeT P e = some 1 ∧ bs.length = n then
                some (.val (.v (.string ⟨bs.toArray⟩)), H.set id (.arr e n true cs)) else none
            | none => none
          | _, _ => none
        | .v (.pointer none), some (.int .i64 0) => some (.val (.v (.string .empty)), H)
        | _, _ => none
      | _, _ => none
    | .builtin .recover => some (.recov, H)
    | _ => none
  | _ => none

/-- What a frame has: its slots, its deferred calls (the last one first), the heap. -/
structure St where
  tm : List AV
  df : List (Fn × List AV × List AV)
  H : Heap

def putA (tm : List AV) (d : Option Tmp) (x : AV) : List AV := match d with
  | some t => tm.set t x
  | none => tm

inductive AExit where
  | normal
  | exit (id : Nat)
  | ret
  | pan (x : AV)

inductive AEnd where
  | ret (x : AV)
  | pan (x : AV)

abbrev CallFn := FuncId → List AV → Heap → Option (AEnd × Heap)

/-- Is an operation wanted, where its guard's slot holds x? -/
def wantBy (want : Bool) : AV → Option Bool
  | .v (.bool c) => some (c == want)
  | .v (.tuple _) => some false
  | _ => none

def awanted (ops : Array Oper) (tm : List AV) (o : Oper) : Option Bool :=
  match o.guard with
  | none => some true
  | some (j, want) => match (ops[j]?).bind (·.dst) with
    | some t => match tm[t]? with
      | some x => wantBy want x
      | none => none
    | none => none

/-- Operations one behind the other. -/
def aops (E : Env) (call : CallFn) (ops : Array Oper) : List Oper → St → Option (AExit × St)
  | [], s => some (.normal, s)
  | o :: r, s => match awanted ops s.tm o with
    | none => none
    | some false => aops E call ops r { s with tm := putA s.tm o.dst (.v undef) }
    | some true => match aop E (aval E s.tm) o s.H with
      | some (.val x, H) => aops E call ops r { s with tm := putA s.tm o.dst x, H := H }
      | some (.skip, H) => aops E call ops r { s with tm := putA s.tm o.dst (.v undef), H := H }
      | some (.dfr f cap args, H) => aops E call ops r { tm := putA s.tm o.dst (.v undef), df := (f, cap, args) :: s.df, H := H }
      | some (.enter g args, H) => match call g args H with
        | some (.ret x, H') => aops E call ops r { s with tm := putA s.tm o.dst x, H := H' }
        | some (.pan x, H') => some (.pan x, { s with H := H' })
        | none => none
      | some (.pan x, H) => some (.pan x, { s with H := H })
      | _ => none

/-- Does an operation change memory, or call? -/
def effB : Builtin → Bool
  | .len | .cap | .min | .max | .unsafeSliceData => false
  | _ => true
def isEff (P : Program) (o : Oper) : Bool := match o.op with
  | .alloc _ | .box .. | .store .. | .makeMap .. | .makeSlice .. | .mapUpdate .. | .defer _ | .panic _ => true
  | .buildSlice t _ parts => (match P.underlying t with | some (.slice e) => byteT P e | _ => true) && parts.all fun p => Region.isConst p.2
  | .convert s d _ => s == d
  | .call c => match c.callee with
    | .builtin b => effB b
    | _ => true
  | _ => false

/-- A region whose order is open: what each operation comes to, in the text's order. -/
structure Entry where
  g : FuncId
  args : List AV
  H : Heap
  r : AEnd × Heap

def sameL (f : AV → AV → Bool) : List AV → List AV → Bool
  | [], [] => true
  | x :: xs, y :: ys => f x y && sameL f xs ys
  | _, _ => false

/-- A call that was made already isn't made again. -/
def known (E : Env) (g : FuncId) (args : List AV) (H : Heap) : List Entry → Option (AEnd × Heap)
  | [] => none
  | e :: es => if (e.g == g) && sameL E.same e.args args && E.sameH e.H H then some e.r else known E g args H es

def recall (E : Env) (call : CallFn) (es : List Entry) : CallFn := fun g args H => match known E g args H es with
  | some r => some r
  | none => call g args H

def addC (b : Bool) (x : AV) (q : List Entry × Option (List (Bool × AV) × St)) : List Entry × Option (List (Bool × AV) × St) := (q.1, q.2.map fun p => ((b, x) :: p.1, p.2))

def acanon (E : Env) (call : CallFn) (ops : Array Oper) : List Oper → St → List Entry × Option (List (Bool × AV) × St)
  | [], s => ([], some ([], s))
  | o :: r, s => match awanted ops s.tm o with
    | none => ([], none)
    | some false => addC false (.v undef) (acanon E call ops r { s with tm := putA s.tm o.dst (.v undef) })
    | some true => match aop E (aval E s.tm) o s.H with
      | some (.val x, H) => addC true x (acanon E call ops r { s with tm := putA s.tm o.dst x, H := H })
      | some (.skip, H) => addC true (.v undef) (acanon E call ops r { s with tm := putA s.tm o.dst (.v undef), H := H })
      | some (.enter g args, H) => match call g args H with
        | some (.ret x, H') => (fun q : List Entry × Option (List (Bool × AV) × St) => ({ g, args, H, r := (.ret x, H') } :: q.1, q.2)) (addC true x (acanon E call ops r { s with tm := putA s.tm o.dst x, H := H' }))
        | some (.pan x, H') => ([{ g, args, H, r := (.pan x, H') }], none)
        | none => ([], none)
      | _ => ([], none)

/-- The slot's value that operation i sees: what the last of the earlier ones has left there. -/
def seenAt (ops : List Oper) (l : List (Bool × AV)) (tm : List AV) : Nat → Nat → AV → AV
  | 0, _, d => d
  | i + 1, t, d => match (ops[i]?).bind (·.dst) with
    | some u => if u = t then ((l[i]?).map (·.2)).getD d else seenAt ops l tm i t d
    | none => seenAt ops l tm i t d

/-- The slots that an operation names. -/
def slotsOf (ops : Array Oper) (o : Oper) : List Tmp :=
  o.dst.toList ++ (o.op.operands.toList.filterMap fun | .tmp t => some t | _ => none) ++
    (match o.guard with | none => [] | some (j, _) => ((ops[j]?).bind (·.dst)).toList)

def rhoAt (E : Env) (ops : Array Oper) (l : List (Bool × AV)) (tm : List AV) (i : Nat) (o : Oper) : Operand → AV
  | .tmp t => if t < tm.length ∧ (slotsOf ops o).contains t = true then seenAt ops.toList l tm i t (tm.getD t (.v undef)) else .top
  | .const x => conv x
  | .global g => .ep (E.glob g)
  | .func f => .fn (.func f) [] []

/-- Is an operation wanted, by what it sees? -/
def wantAt (ops : Array Oper) (l : List (Bool × AV)) (tm : List AV) (i : Nat) (o : Oper) : Option Bool :=
  match o.guard with
  | none => some true
  | some (j, want) => match (ops[j]?).bind (·.dst) with
    | some t => if t < tm.length then wantBy want (seenAt ops.toList l tm i t (tm.getD t (.v undef))) else none
    | none => none

/-- One step at a heap gives what stands in the list; the heap behind it. -/
def stepsAt (E : Env) (call : CallFn) (ops : Array Oper) (l : List (Bool × AV)) (tm : List AV) (i : Nat) (H : Heap) : Option Heap :=
  match ops[i]?, l[i]? with
  | some o, some (_, x) => match wantAt ops l tm i o with
    | none => none
    | some false => if E.same (.v undef) x then some H else none
    | some true => match aop E (rhoAt E ops l tm i o) o H with
      | some (.val y, H') => if E.same y x then some H' else none
      | some (.skip, H') => if E.same (.v undef) x then some H' else none
      | some (.enter g args, H') => match call g args H' with
        | some (.ret y, H'') => if E.same y x then some H'' else none
        | _ => none
      | _ => none
  | _, _ => none

/-- Every order of the operations with an effect: at each heap on the way the others that may come there give what they gave. rem: those still to come. -/
def atree (E : Env) (call : CallFn) (ops : Array Oper) (bf : Array Nat) (l : List (Bool × AV)) (tm : List AV) (Hend : Heap) : Nat → List Nat → Heap → Bool
  | 0, _, _ => false
  | fuel + 1, rem, H =>
    ((List.range ops.size).all fun i => ((ops[i]?).map (isEff E.P)).getD true || rem.any (fun e => (bf.getD i 0).testBit e) ||
      ((List.range ops.size).any fun e => ((ops[e]?).map (isEff E.P)).getD false && !rem.contains e && (bf.getD e 0).testBit i) ||
      (match stepsAt E call ops l tm i H with
        | some H' => E.sameH H' H
        | none => false)) &&
    (rem.all fun e => rem.any (fun e' => (bf.getD e 0).testBit e') ||
      (match stepsAt E call ops l tm e H with
        | some H' => atree E call ops bf l tm Hend fuel (rem.erase e) H'
        | none => false)) &&
    (!rem.isEmpty || E.sameH H Hend)

/-- The conditions on a region's edges and slots alone: whoever writes a slot is ordered with whoever names it. -/
def drawOk (ops : Array Oper) : Bool :=
  let bf := Region.before ops
  Region.noSelect ops && (ops.toList.zipIdx.all fun (o, i) => o.after.all (fun e => !Region.binds .any e || decide (e.on < i)) &&
    (slotsOf ops o).all fun t => ops.toList.zipIdx.all fun (q, k) => q.dst != some t || k == i || (bf.getD (max i k) 0).testBit (min i k))

def endTm (ops : List Oper) (l : List (Bool × AV)) (tm : List AV) : List AV := (ops.zip l).foldl (fun tm p => putA tm p.1.dst p.2.2) tm

def effs (P : Program) (ops : Array Oper) : List Nat := (List.range ops.size).filter fun i => ((ops[i]?).map (isEff P)).getD false

/-- As acanon, but nothing that hangs on operation e is done. -/
def acanonP (E : Env) (ops : Array Oper) (bf : Array Nat) (e : Nat) : List Oper → Nat → List AV → Heap → Option (List (Bool × AV))
  | [], _, _, _ => some []
  | o :: r, i, tm, H =>
    let go (x : AV) : Option (List (Bool × AV)) := (acanonP E ops bf e r (i + 1) (putA tm o.dst x) H).map fun l => (true, x) :: l
    if i = e ∨ (bf.getD i 0).testBit e = true then go .top
    else match awanted ops tm o with
      | none => none
      | some false => go (.v undef)
      | some true => match aop E (aval E tm) o H with
        | some (.val x, _) => go x
        | _ => none

/-- The first operation with an effect is a call that panics; all others with an effect hang on it. -/
def adrawP (E : Env) (call : CallFn) (ops : Array Oper) (s : St) : Option (AExit × St) :=
  let bf := Region.before ops
  match effs E.P ops with
  | [] => none
  | e :: es => match acanonP E ops bf e ops.toList 0 s.tm s.H, ops[e]? with
    | some l, some o =>
      if (es.all fun e' => (bf.getD e' 0).testBit e) && o.guard.isNone && (l.length == ops.size) &&
        ((List.range ops.size).all fun i => i == e || (bf.getD i 0).testBit e ||
          (match stepsAt E call ops l s.tm i s.H with
            | some H' => E.sameH H' s.H
            | none => false)) then
        match aop E (rhoAt E ops l s.tm e o) o s.H with
        | some (.enter g args, H1) => match call g args H1 with
          | some (.pan x, H') => some (.pan x, { s with tm := endTm ops.toList (List.replicate ops.size (true, .top)) s.tm, H := H' })
          | _ => none
        | _ => none
      else none
    | _, _ => none

def adraw (E : Env) (call : CallFn) (ops : Array Oper) (s : St) : Option (AExit × St) :=
  if drawOk ops then
    match acanon E call ops ops.toList s with
    | (c, some (l, s')) => if (l.length == ops.size) && atree E (recall E call c) ops (Region.before ops) l s.tm s'.H (ops.size + 1) (effs E.P ops) s.H
        then some (.normal, { s with tm := endTm ops.toList l s.tm, H := s'.H }) else none
    | (c, none) => adrawP E (recall E call c) ops s
  else none

def aloop (f : St → Option (AExit × St)) : Nat → St → Option (AExit × St)
  | 0, _ => none
  | n + 1, s => match f s with
    | some (.normal, s') => aloop f n s'
    | r => r

def acode (E : Env) (call : CallFn) (fuel : Nat) : Code → St → Option (AExit × St)
  | .skip, s | .label _, s => some (.normal, s)
  | .region _ ops d, s => if d then adraw E call ops s else aops E call ops ops.toList s
  | .seq a b, s => match acode E call fuel a s with
    | some (.normal, s') => acode E call fuel b s'
    | r => r
  | .cond c a b, s => match aval E s.tm c with
    | .v (.bool true) => acode E call fuel a s
    | .v (.bool false) => acode E call fuel b s
    | _ => none
  | .block id b, s => match acode E call fuel b s with
    | some (.exit id', s') => if id' = id then some (.normal, s') else some (.exit id', s')
    | r => r
  | .loop b, s => aloop (acode E call fuel b) fuel s
  | .exit id, s => some (.exit id, s)
  | .ret, s => some (.ret, s)
  | _, _ => none

/-- The results. -/
def aresult (E : Env) (s : St) : ResultVar → Option AV
  | .tmp t => some (s.tm.getD t (.v undef))
  | .cell a t => match s.tm.getD a (.v undef) with
    | .ptr id off => match s.H[id]? with
      | some (.box _ cs) => aload E.P t cs off
      | _ => none
    | _ => none

def aresultL (E : Env) (s : St) : List ResultVar → Option (List AV)
  | [] => some []
  | r :: rs => match aresult E s r, aresultL E s rs with
    | some x, some xs => some (x :: xs)
    | _, _ => none

def aresults (E : Env) (fn : Func) (s : St) : Option AV := match aresultL E s fn.results.toList with
  | some [x] => some x
  | some xs => some (.tup xs)
  | none => none

/-- How a frame is left: it returns; it panics; it has recovered. -/
inductive AMode where
  | ret
  | pan (x : AV)

/-- A deferred function's body: recover gives what is thrown. What it gave is told. -/
structure StD where
  s : St
  /-- what may be recovered -/
  pm : Option AV
  /-- it has been -/
  rcd : Bool

def aopsD (E : Env) (call : CallFn) (ops : Array Oper) : List Oper → StD → Option (AExit × StD)
  | [], d => some (.normal, d)
  | o :: r, d => match awanted ops d.s.tm o with
    | none => none
    | some false => aopsD E call ops r { d with s := { d.s with tm := putA d.s.tm o.dst (.v undef) } }
    | some true => match aop E (aval E d.s.tm) o d.s.H with
      | some (.val x, H) => aopsD E call ops r { d with s := { d.s with tm := putA d.s.tm o.dst x, H := H } }
      | some (.skip, H) => aopsD E call ops r { d with s := { d.s with tm := putA d.s.tm o.dst (.v undef), H := H } }
      | some (.recov, H) => match d.pm with
        | some x => aopsD E call ops r { s := { d.s with tm := putA d.s.tm o.dst x, H := H }, pm := none, rcd := true }
        | none => aopsD E call ops r { d with s := { d.s with tm := putA d.s.tm o.dst (.v .nilIface), H := H } }
      | some (.enter g args, H) => match call g args H with
        | some (.ret x, H') => aopsD E call ops r { d with s := { d.s with tm := putA d.s.tm o.dst x, H := H' } }
        | _ => none
      | _ => none

def acodeD (E : Env) (call : CallFn) (fuel : Nat) : Code → StD → Option (AExit × StD)
  | .seq a b, d => match acodeD E call fuel a d with
    | some (.normal, d') => acodeD E call fuel b d'
    | r => r
  | .cond c a b, d => match aval E d.s.tm c with
    | .v (.bool true) => acodeD E call fuel a d
    | .v (.bool false) => acodeD E call fuel b d
    | _ => none
  | .region _ ops false, d => aopsD E call ops ops.toList d
  | c, d => (acode E call fuel c d.s).map fun q => (q.1, { d with s := q.2 })

def aframe (_E : Env) (fn : Func) (args : List AV) (H : Heap) : St :=
  { tm := args ++ List.replicate (fn.ntmps - args.length) (.v undef), df := [], H }

/-- How the frame is left, behind a deferred call. -/
def StD.mode (d : StD) : AMode := match d.rcd, d.pm with
  | false, some x => .pan x
  | _, _ => .ret

/-- The deferred calls, one behind the other. -/
def adefers (E : Env) (call : CallFn) (fuel : Nat) (fn : Func) (tm : List AV) : List (Fn × List AV × List AV) → AMode → Heap → Option (AEnd × Heap)
  | [], .ret, H => (aresults E fn { tm := tm, df := [], H := H }).map fun x => (.ret x, H)
  | [], .pan x, H => some (.pan x, H)
  | (.func g, cap, args) :: ds, m, H => match E.code g with
    | some (fd, c) =>
      match acodeD E call fuel c { s := aframe E fd (args ++ cap) H, pm := (match m with | .ret => none | .pan x => some x), rcd := false } with
      | some (.normal, d) | some (.ret, d) => match d.s.df, aresults E fd d.s with
        | [], some _ => adefers E call fuel fn tm ds d.mode d.s.H
        | _, _ => none
      | _ => none
    | none => none
  | _, _, _ => none

def abody (E : Env) (call : CallFn) (fuel : Nat) (fn : Func) (c : Code) (args : List AV) (H : Heap) : Option (AEnd × Heap) :=
  match acode E call fuel c (aframe E fn args H) with
  | some (.normal, s) | some (.ret, s) => adefers E call fuel fn s.tm s.df .ret s.H
  | some (.pan x, s) => adefers E call fuel fn s.tm s.df (.pan x) s.H
  | _ => none

mutual
/-- Nothing from number n on stands in it. -/
def AV.under (n : Nat) : AV → Bool
  | .ptr id _ => decide (id < n)
  | .asl id _ => decide (id < n)
  | .ap id _ _ => decide (id < n)
  | .bsl id _ _ => decide (id < n)
  | .mp id => decide (id < n)
  | .sl _ cs => AV.underL n cs
  | .ep cs => AV.underL n cs
  | .agg cs => AV.underL n cs
  | .tup cs => AV.underL n cs
  | .fn _ a b => AV.underL n a && AV.underL n b
  | .ifc _ x => AV.under n x
  | .top => true
  | .v _ => true
def AV.underL (n : Nat) : List AV → Bool
  | [] => true
  | x :: xs => AV.under n x && AV.underL n xs
end

def AObj.under (n : Nat) : AObj → Bool
  | .box _ cs => AV.underL n cs
  | .arr _ _ _ cs => AV.underL n cs
  | .map es => AV.underL n (es.map (·.2))
  | .dead => true

def AEnd.under (n : Nat) : AEnd → Bool
  | .ret x => x.under n
  | .pan x => x.under n

/-- What was laid since, where nothing leads to it any more, is let go. -/
def gc (n : Nat) (r : AEnd × Heap) : AEnd × Heap :=
  if r.1.under n && (r.2.take n).all (·.under n) then (r.1, r.2.take n) else r

abbrev Orc := FuncId → Option CallFn

def acall (E : Env) (orc : Orc) : Nat → CallFn
  | 0 => fun _ _ _ => none
  | n + 1 => fun f args H => match orc f with
    | some g => g f args H
    | none => match E.code f with
      | some (fn, c) => (abody E (acall E orc n) n fn c args H).map (gc H.length)
      | none => none

/-- What is told of the tables is so. -/
structure Env.Good (E : Env) : Prop where
  glob : ∀ gl, AV.underL 0 (E.glob gl) = true
  code : ∀ g fn c, E.code g = some (fn, c) → E.P.funcs[g]? = some fn ∧ fn.body = some c ∧ (fn.name == "runtime.NumGoroutine") = false
  noesc : ∀ g x w, E.noesc g = true → (callFunc g #[x]).run E.P w = .ok (.value x) w
  ext : ∀ g vs r w, E.ext g vs = some r → (callFunc g vs.toArray).run E.P w = .ok (.value r) w
  same : ∀ x y, E.same x y = true → x = y
  sameH : ∀ x y, E.sameH x y = true → x = y

end Go.AI
end
