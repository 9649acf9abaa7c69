/- An abstract machine for the model of the language: values by value, memory by regions; it is defined here, and nothing is proved yet. -/
import GoSem.Step
set_option autoImplicit false
set_option linter.unusedVariables false
namespace Go.AM
open Go

/-- What stands in a slot or in a cell. 'v': a value without an address. 'sl': a slice by value; 'full': no room behind it.
'ref', 'ptr': into region r, at its version. 'imm': a pointer to memory that is not written, and what is read from there on. -/
inductive AV where
  | undef
  | v (x : Value)
  | agg (l : List AV)
  | tup (l : List AV)
  | sl (full : Bool) (l : List (List AV))
  | ref (r ver off len : Nat)
  | ptr (r ver i off : Nat)
  | imm (l : List AV)
  | fn (f : FuncId) (caps : List AV)
  | iface (t : TypeId) (x : AV)
  | map (r : Nat)
  deriving Inhabited

/-- A region of memory: elements of sz cells. 'rf': at least what is referred to from within. -/
inductive Reg where
  | arr (ver : Nat) (ro : Bool) (sz : Nat) (rf : List Nat) (l : List (List AV))
  | map (rf : List Nat) (l : List (AV × AV))
  | dead
  deriving Inhabited

abbrev Heap := List Reg

/-! Slots -/
inductive T where
  | e
  | n (l : T) (x : AV) (r : T)
  deriving Inhabited

def T.get : T → Nat → AV
  | .e, _ => .undef
  | .n l x r, i => match Nat.beq i 0 with
    | true => x
    | false => match Nat.beq (i % 2) 1 with
      | true => l.get (i / 2)
      | false => r.get (i / 2 - 1)

def T.one : Nat → Nat → AV → T
  | 0, _, _ => .e
  | f + 1, i, x => match Nat.beq i 0 with
    | true => .n .e x .e
    | false => match Nat.beq (i % 2) 1 with
      | true => .n (T.one f (i / 2) x) .undef .e
      | false => .n .e .undef (T.one f (i / 2 - 1) x)

def T.set : T → Nat → AV → T
  | .e, i, x => T.one (i + 1) i x
  | .n l y r, i, x => match Nat.beq i 0 with
    | true => .n l x r
    | false => match Nat.beq (i % 2) 1 with
      | true => .n (l.set (i / 2) x) y r
      | false => .n l y (r.set (i / 2 - 1) x)

def T.ofList (t : T) : Nat → List AV → T
  | _, [] => t
  | i, x :: l => (t.set i x).ofList (i + 1) l

/-- What held nothing at first holds nothing now. -/
def T.like : T → T → T
  | .e, _ => .e
  | .n _ _ _, .e => .e
  | .n l x r, .n l' x' r' => .n (l.like l') (match x with | .undef => .undef | _ => x') (r.like r')

/-! Values -/
def ofCell : Value → AV
  | .slice none 0 0 => .sl true []
  | .func (.func f) ⟨[]⟩ ⟨[]⟩ => .fn f []
  | .bool b => .v (.bool b)
  | .int k n => .v (.int k n)
  | .float k b => .v (.float k b)
  | .string s => .v (.string s)
  | .pointer none => .v (.pointer none)
  | .map none => .v (.map none)
  | .nilFunc => .v .nilFunc
  | .nilIface => .v .nilIface
  | _ => .undef

/-- A value of one cell, without an address. -/
def plain : Value → Bool
  | .bool _ | .int _ _ | .float _ _ | .string _ | .pointer none | .map none | .nilFunc | .nilIface => true
  | _ => false

def mkV : Option Value → Option AV
  | some x => if plain x then some (.v x) else none
  | none => none

def ofConst : Value → AV
  | .agg cs => if (cs.toList.map ofCell).all fun x => (match x with | .undef => false | _ => true) then .agg (cs.toList.map ofCell) else .undef
  | x => ofCell x

def one : AV → Bool
  | .undef | .agg _ | .tup _ => false
  | _ => true

/-- The cells of what is to be stored; 'none': it may not be. -/
def cells : AV → Option (List AV)
  | .agg l => some l
  | .undef | .tup _ => none
  | x => some [x]

def zeroCells (P : Program) (t : TypeId) : Option (List AV) :=
  match P.info? t with
  | some i => match i.zero with
    | some z => if (z.cells.toList.map ofCell).all one then some (z.cells.toList.map ofCell) else none
    | none => none
  | none => none

def aggT (P : Program) (t : TypeId) : Option Bool :=
  match P.underlying t with
  | some (.struct _) => some true
  | some (.array _ _) => some true
  | some _ => some false
  | none => none

mutual
def refs : AV → List Nat
  | .agg l => refsL l
  | .tup l => refsL l
  | .ref r _ _ _ => [r]
  | .ptr r _ _ _ => [r]
  | .fn _ l => refsL l
  | .iface _ x => refs x
  | .map r => [r]
  | _ => []
def refsL : List AV → List Nat
  | [] => []
  | x :: l => refs x ++ refsL l
end

def refsE : List (List AV) → List Nat
  | [] => []
  | x :: l => refsL x ++ refsE l

def T.refs : T → List Nat
  | .e => []
  | .n l x r => AM.refs x ++ (l.refs ++ r.refs)

mutual
def ren (σ : Nat → Nat) : AV → AV
  | .agg l => .agg (renL σ l)
  | .tup l => .tup (renL σ l)
  | .ref r a b c => .ref (σ r) a b c
  | .ptr r a b c => .ptr (σ r) a b c
  | .fn f l => .fn f (renL σ l)
  | .iface t x => .iface t (ren σ x)
  | .map r => .map (σ r)
  | x => x
def renL (σ : Nat → Nat) : List AV → List AV
  | [] => []
  | x :: l => ren σ x :: renL σ l
end

def T.ren (σ : Nat → Nat) : T → T
  | .e => .e
  | .n l x r => .n (l.ren σ) (AM.ren σ x) (r.ren σ)

def regRefs : Reg → List Nat
  | .arr _ _ _ rf _ => rf
  | .map rf _ => rf
  | .dead => []

def renReg (σ : Nat → Nat) : Reg → Reg
  | .arr v ro sz rf l => match rf with
    | [] => .arr v ro sz [] l
    | rf => .arr v ro sz (rf.map σ) (l.map (renL σ))
  | .map rf l => .map (rf.map σ) (l.map fun (a, b) => (ren σ a, ren σ b))
  | .dead => .dead

def mem (r : Nat) : List Nat → Bool
  | [] => false
  | x :: l => if Nat.beq r x then true else mem r l

def addNew (acc : List Nat) : List Nat → List Nat
  | [] => acc
  | r :: l => if mem r acc then addNew acc l else addNew (acc ++ [r]) l

/-- What is reached from 'todo', in the order of discovery. -/
def reach (H : Heap) : Nat → List Nat → List Nat → Option (List Nat)
  | 0, _, _ => none
  | n + 1, acc, todo =>
    match todo with
    | [] => some acc
    | r :: rest =>
      match mem r acc with
      | true => reach H n acc rest
      | false => reach H n (acc ++ [r]) (match H[r]? with
        | some g => (match regRefs g with | [] => rest | l => rest ++ l)
        | none => rest)

def much : Nat := 1000000

def idxOf (r : Nat) : List Nat → Nat
  | [] => 0
  | x :: l => if Nat.beq r x then 0 else idxOf r l + 1

/-- Is it b, b + 1, ..? -/
def isFrom (b : Nat) : List Nat → Bool
  | [] => true
  | x :: l => Nat.beq x b && isFrom (b + 1) l

def slice {α : Type} (l : List α) (off len : Nat) : List α := (l.drop off).take len

def readElems (H : Heap) : AV → Option (List (List AV))
  | .sl _ l => some l
  | .ref r ver off len =>
    match H[r]? with
    | some (.arr ver' _ _ _ l) => if ver' = ver ∧ off + len ≤ l.length then some (slice l off len) else none
    | _ => none
  | _ => none

mutual
/-- By value: no reference to a slice's region is left. 'S': the regions that may be read. -/
def freezeN (H : Heap) (S : List Nat) : Nat → AV → Option AV
  | 0, _ => none
  | n + 1, x =>
    match x with
    | .ref r ver off len =>
      match mem r S with
      | false => none
      | true => match H[r]? with
        | some (.arr ver' _ _ rf l) =>
          if ver' = ver ∧ off + len ≤ l.length then
            match rf with
            | [] => some (.sl false (slice l off len))
            | _ => match freezeE H S n (slice l off len) with
              | some l => if (refsE l).isEmpty then some (.sl false l) else none
              | none => none
          else none
        | _ => none
    | .agg l => match freezeC H S n l with | some l => some (.agg l) | none => none
    | .tup l => match freezeC H S n l with | some l => some (.tup l) | none => none
    | x => some x
def freezeC (H : Heap) (S : List Nat) : Nat → List AV → Option (List AV)
  | 0, _ => none
  | n + 1, l =>
    match l with
    | [] => some []
    | x :: l => match freezeN H S n x with
      | some x => match freezeC H S n l with
        | some l => some (x :: l)
        | none => none
      | none => none
def freezeE (H : Heap) (S : List Nat) : Nat → List (List AV) → Option (List (List AV))
  | 0, _ => none
  | n + 1, l =>
    match l with
    | [] => some []
    | x :: l => match freezeC H S n x with
      | some x => match freezeE H S n l with
        | some l => some (x :: l)
        | none => none
      | none => none
end

mutual
/-- May some of it lie in memory that is not written? -/
def hasSl : AV → Bool
  | .sl _ l => !l.isEmpty
  | .imm _ => true
  | .agg l => hasSlL l
  | .tup l => hasSlL l
  | .fn _ l => hasSlL l
  | .iface _ x => hasSl x
  | _ => false
def hasSlL : List AV → Bool
  | [] => false
  | x :: l => hasSl x || hasSlL l
end

mutual
/-- The slices' regions that 'freeze' reads at once. -/
def slRefs : AV → List Nat
  | .ref r _ _ _ => [r]
  | .agg l => slRefsL l
  | .tup l => slRefsL l
  | _ => []
def slRefsL : List AV → List Nat
  | [] => []
  | x :: l => slRefs x ++ slRefsL l
end

def setSeg (e : List AV) (off : Nat) (cs : List AV) : List AV := e.take off ++ (cs ++ e.drop (off + cs.length))

inductive Out where
  | ret (x : AV)
  | pan (x : AV)
  deriving Inhabited

inductive Ex where
  | normal
  | exit (id : Nat)
  | ret
  | pan (x : AV)
  deriving Inhabited

/-- 'd': the calls that are deferred, the last one first. 'k': which slots are kept behind a region (none: all). -/
structure St where
  t : T
  h : Heap
  d : List (FuncId × List AV)
  k : Nat → Option (List Nat) := fun _ => none
  deriving Inhabited

def ev (G : Nat → AV) (t : T) : Operand → AV
  | .tmp i => t.get i
  | .const x => ofConst x
  | .func f => .fn f []
  | .global g => G g

def putT (t : T) (d : Option Tmp) (x : AV) : T :=
  match d with
  | some d => t.set d x
  | none => t

/-- A run of the model's own meaning that asks nothing of the world. -/
def pureRun {α : Type} (P : Program) : Sem α → Option α
  | .pure a => some a
  | .program k => pureRun P (k P)
  | _ => none

def binInt (op : BinOp) (k : IntKind) (a b : Int) : Option AV :=
  match op with
  | .add => some (.v (.int k (k.wrap (a + b))))
  | .sub => some (.v (.int k (k.wrap (a - b))))
  | .mul => some (.v (.int k (k.wrap (a * b))))
  | .quo => if b = 0 then none else some (.v (.int k (k.wrap (a.tdiv b))))
  | .rem => if b = 0 then none else some (.v (.int k (a.tmod b)))
  | .eql => some (.v (.bool (a == b)))
  | .neq => some (.v (.bool (a != b)))
  | .lss => some (.v (.bool (decide (a < b))))
  | .leq => some (.v (.bool (decide (a ≤ b))))
  | .gtr => some (.v (.bool (decide (a > b))))
  | .geq => some (.v (.bool (decide (a ≥ b))))
  | _ => none

/-- Are two cells the same? 's': ints, else bools. -/
def eqOne (s : Bool) (x y : AV) : Option Bool :=
  match s, x, y with
  | true, .v (.int k a), .v (.int k' b) => if k = k' then some (a == b) else none
  | false, .v (.bool a), .v (.bool b) => some (a == b)
  | _, _, _ => none

/-- Are two flat values the same? -/
def eqShape : List Bool → List AV → List AV → Option Bool
  | [], _, _ => some true
  | s :: sh, x :: l, y :: m => match eqOne s x y with
    | some true => eqShape sh l m
    | some false => some false
    | none => none
  | _, _, _ => none

def binAV (P : Program) (eqT : TypeId → List Bool) (lit : Bool) (op : BinOp) (t : TypeId) (x y : AV) : Option AV :=
  match x, y with
  | .v (.int k a), .v (.int k' b) =>
    match op with
    | .shl => if b < 0 then none else some (.v (.int k (k.wrap (a * 2 ^ (min b.toNat k.bits)))))
    | .shr => if b < 0 then none else some (.v (.int k (a.fdiv (2 ^ (min b.toNat k.bits)))))
    | .and | .or | .xor | .andNot => if k = k' then mkV (pureRun P (Op.intBits op k a b)) else none
    | _ => if k = k' then binInt op k a b else none
  | .v (.float k a), .v (.float k' b) => mkV (pureRun P (binOp op t (.float k a) (.float k' b)))
  | .v (.string a), .v (.string b) => mkV (pureRun P (Op.stringOp op a b))
  | .v (.bool a), .v (.bool b) =>
    match op, P.underlying t with
    | .eql, some .bool => some (.v (.bool (a == b)))
    | .neq, some .bool => some (.v (.bool (a != b)))
    | _, _ => none
  | .agg l, .agg m =>
    match eqT t, op with
    | [], _ => none
    | sh, .eql => match eqShape sh l m with | some b => some (.v (.bool b)) | none => none
    | sh, .neq => match eqShape sh l m with | some b => some (.v (.bool (!b))) | none => none
    | _, _ => none
  | .v .nilIface, .v .nilIface =>
    match lit, op, P.underlying t with
    | true, .eql, some (.interface _) => some (.v (.bool true))
    | true, .neq, some (.interface _) => some (.v (.bool false))
    | _, _, _ => none
  | .iface _ _, .v .nilIface =>
    match op, P.underlying t with
    | .eql, some (.interface _) => some (.v (.bool false))
    | .neq, some (.interface _) => some (.v (.bool true))
    | _, _ => none
  | _, _ => none

def unAV (P : Program) (op : UnOp) (x : AV) : Option AV :=
  match x with
  | .v x => mkV (pureRun P (Op.unary op x))
  | _ => none

def bytesOf : List (List AV) → Option (List UInt8)
  | [] => some []
  | [.v (.int .u8 n)] :: l => match bytesOf l with
    | some l => some (UInt8.ofNat n.toNat :: l)
    | none => none
  | _ => none

def convAV (P : Program) (h : Heap) (src dst : TypeId) (x : AV) : Option AV :=
  match P.underlying src, P.underlying dst, x with
  | some _, some (.int k), .v (.int _ n) => some (.v (.int k (k.wrap n)))
  | some _, some (.float k), .v (.int _ n) => some (.v (.float k (k.nearest n)))
  | some _, some (.int k), .v (.float s b) => mkV (pureRun P (Conv.floatToInt s b k))
  | some (.slice e), some .string, x =>
    match P.underlying e, readElems h x with
    | some (.int .u8), some l => match bytesOf l with | some l => some (.v (.string ⟨l.toArray⟩)) | none => none
    | _, _ => none
  | _, _, _ => none

/-- Which regions an operation read, which it turned, and whether regions came behind all. -/
structure FP where
  rd : List Nat
  wr : List Nat
  app : Bool
  deriving Inhabited

def fp0 : FP := ⟨[], [], false⟩

inductive R where
  | val (x : AV) (h : Heap) (f : FP)
  | pan (x : AV) (h : Heap)
  deriving Inhabited

def newVar (h : Heap) (slot : Nat) (cs : List AV) : R :=
  .val (.ptr slot 0 0 0) (h.set slot (.arr 0 false cs.length (addNew [] (refsL cs)) [cs])) ⟨[], [slot], false⟩

def fillAV (place : Nat → Option (Nat × Nat)) (cs : List AV) : List (Nat × AV) → Option (List AV)
  | [] => some cs
  | (i, x) :: rest =>
    match place i, cells x with
    | some (off, size), some c =>
      if c.length ≠ size ∨ off + c.length > cs.length then none else fillAV place (setSeg cs off c) rest
    | _, _ => none

/-- What is read of an element's cells. -/
def part (P : Program) (t : TypeId) (e : List AV) (off : Nat) : Option AV :=
  match aggT P t with
  | some true => if off + P.cellsOf t ≤ e.length then some (.agg (slice e off (P.cellsOf t))) else none
  | some false => e[off]?
  | none => none

def loadAV (P : Program) (h : Heap) (t : TypeId) : AV → Option (AV × FP)
  | .ptr r ver i off =>
    match h[r]? with
    | some (.arr ver' _ _ _ l) =>
      if ver' = ver then match l[i]? with
        | some e => match part P t e off with
          | some x => some (x, ⟨[r], [], false⟩)
          | none => none
        | none => none
      else none
    | _ => none
  | .imm e => match part P t e 0 with
    | some x => some (x, fp0)
    | none => none
  | _ => none

def storeAV (P : Program) (h : Heap) (t : TypeId) (p x : AV) : Option (Heap × FP) :=
  match p, cells x with
  | .ptr r ver i off, some c =>
    match h[r]? with
    | some (.arr ver' false sz rf l) =>
      if ver' = ver then match l[i]? with
        | some e =>
          if c.length = P.cellsOf t ∧ off + c.length ≤ e.length then
            some (h.set r (.arr ver' false sz (addNew rf (refsL c)) (l.set i (setSeg e off c))), ⟨[], [r], false⟩)
          else none
        | none => none
      else none
    | _ => none
  | _, _ => none

def fieldOff (P : Program) (s : TypeId) (f : Nat) : Option (Nat × TypeId) :=
  match P.underlying s with
  | some (.struct fs) => match fs[f]? with | some g => some (g.offset, g.type) | none => none
  | _ => none

def moveBy (n : Nat) : AV → Option AV
  | .ptr r ver i off => some (.ptr r ver i (off + n))
  | .imm l => some (.imm (l.drop n))
  | _ => none

def idx (i : Int) (len : Nat) : Option Nat := if 0 ≤ i ∧ i < len then some i.toNat else none

def indexAddrAV (P : Program) (h : Heap) (t : TypeId) (x : AV) (i : Int) : Option AV :=
  match P.underlying t with
  | some (.array len elem) =>
    match idx i len with
    | some n => if (P.info? elem).isSome then moveBy (n * P.cellsOf elem) x else none
    | none => none
  | some (.slice elem) =>
    match x with
    | .sl _ l => match idx i l.length with
      | some n => match l[n]? with
        | some e => if e.length = P.cellsOf elem ∧ (P.info? elem).isSome = true then some (.imm e) else none
        | none => none
      | none => none
    | .ref r ver off len => match idx i len with
      | some n => match h[r]? with
        | some (.arr ver' _ sz _ _) => if (ver' = ver ∧ sz = P.cellsOf elem) ∧ (P.info? elem).isSome = true then some (.ptr r ver (off + n) 0) else none
        | _ => none
      | none => none
    | _ => none
  | _ => none

def indexAV (P : Program) (t : TypeId) (x : AV) (i : Int) : Option AV :=
  match P.underlying t, x with
  | some (.array len elem), .agg l =>
    match idx i len with
    | some n => if (P.info? elem).isSome then part P elem l (n * P.cellsOf elem) else none
    | none => none
  | some .string, .v (.string s) =>
    match idx i s.size with
    | some n => match s.data[n]? with | some b => some (.v (.int .u8 b.toNat)) | none => none
    | none => none
  | _, _ => none

def bound (x : Option AV) (dflt : Nat) (most : Nat) : Option Nat :=
  match x with
  | none => if dflt ≤ most then some dflt else none
  | some (.v (.int _ i)) => if 0 ≤ i ∧ i ≤ most then some i.toNat else none
  | _ => none

def allLen (n : Nat) : List (List AV) → Bool
  | [] => true
  | e :: l => Nat.beq e.length n && allLen n l

def chunks (s : Nat) : Nat → List AV → List (List AV)
  | 0, _ => []
  | n + 1, l => l.take s :: chunks s n (l.drop s)

def sliceAV (P : Program) (h : Heap) (t : TypeId) (x : AV) (lo hi mx : Option AV) : Option (AV × Heap × FP) :=
  match P.underlying t, x with
  | some (.slice elem), .sl full l =>
    if mx.isSome && !hi.isSome then none else
    match bound mx l.length l.length with
    | some m => match bound hi l.length m with
      | some b => match bound lo 0 b with
        | some a => if allLen (P.cellsOf elem) l && (P.info? elem).isSome then some (.sl (if mx.isSome then m == b else full && b == l.length) (slice l a (b - a)), h, fp0) else none
        | none => none
      | none => none
    | none => none
  | some (.slice elem), .ref r ver off len =>
    match mx with
    | some _ => none
    | none => match bound hi len len with
      | some b => match bound lo 0 b with
        | some a => match h[r]? with
          | some (.arr ver' _ sz _ _) => if (ver' = ver ∧ sz = P.cellsOf elem) ∧ (P.info? elem).isSome = true then some (.ref r ver (off + a) (b - a), h, ⟨[r], [], false⟩) else none
          | _ => none
        | none => none
      | none => none
  | some (.array n elem), .ptr r ver i off =>
    match h[r]?, mx, bound hi n n with
    | some (.arr ver' _ sz [] l), none, some b =>
      match l[i]?, bound lo 0 b with
      | some e, some a =>
        if (ver' = ver ∧ off + n * P.cellsOf elem ≤ e.length) ∧ (P.info? elem).isSome = true then
          some (.sl (b == n) (slice (chunks (P.cellsOf elem) n (e.drop off)) a (b - a)), h.set r (.arr ver' true sz [] l), ⟨[], [r], false⟩)
        else none
      | _, _ => none
    | _, _, _ => none
  | some .string, .v (.string s) =>
    match mx, bound hi s.size s.size with
    | none, some b => match bound lo 0 b with
      | some a => some (.v (.string (s.extract a b)), h, fp0)
      | none => none
    | _, _ => none
  | _, _ => none

def lenAV : AV → Option Nat
  | .sl _ l => some l.length
  | .ref _ _ _ len => some len
  | _ => none

def elemsOf (h : Heap) (x : AV) : Option (List (List AV)) := readElems h x

def rdOf : AV → List Nat
  | .ref r _ _ _ => [r]
  | _ => []

def room (P : Program) (elem : TypeId) (n : Nat) : Bool := decide (n * P.bytesOf elem ≤ 140737488355328) && decide (n ≤ 140737488355328)

def appendAV (P : Program) (h : Heap) (slot : Nat) (t : TypeId) (s x : AV) : Option R :=
  match P.underlying t with
  | some (.slice elem) =>
    match zeroCells P elem with
    | none => none
    | some z =>
      match elemsOf h x with
      | none => none
      | some [] => (match s with
        | .sl a b => some (.val (.sl a b) h ⟨rdOf x, [], false⟩)
        | .ref a b c d => some (.val (.ref a b c d) h ⟨rdOf x, [], false⟩)
        | _ => none)
      | some new =>
        if allLen (P.cellsOf elem) new && (Nat.beq z.length (P.cellsOf elem) && !(Nat.beq z.length 0)) then
          match s with
          | .sl full l =>
            if full && (room P elem (l.length + new.length) && allLen (P.cellsOf elem) l) then
              some (.val (.ref slot 0 0 (l.length + new.length)) (h.set slot (.arr 0 false (P.cellsOf elem) (addNew [] (refsE new)) (l ++ new))) ⟨rdOf x, [slot], false⟩)
            else none
          | .ref r ver off len =>
            match h[r]? with
              | some (.arr ver' false sz rf l) =>
                if (ver' = ver ∧ off = 0) ∧ (len ≤ l.length ∧ sz = P.cellsOf elem) ∧ room P elem (len + new.length) = true then
                  some (.val (.ref r (ver + 1) 0 (len + new.length)) (h.set r (.arr (ver + 1) false sz (addNew rf (refsE new)) (l.take len ++ new))) ⟨rdOf x, [r], false⟩)
                else none
              | _ => none
          | _ => none
        else none
  | _ => none

def makeAV (P : Program) (h : Heap) (slot : Nat) (t : TypeId) (len cap : AV) : Option R :=
  match P.underlying t, len, cap with
  | some (.slice elem), .v (.int _ l), .v (.int _ c) =>
    match zeroCells P elem with
    | some z =>
      if (0 ≤ l ∧ l ≤ c) ∧ (z.length = P.cellsOf elem ∧ z.length ≠ 0) ∧ room P elem c.toNat = true then
        some (.val (.ref slot 0 0 l.toNat) (h.set slot (.arr 0 false z.length [] (List.replicate l.toNat z))) ⟨[], [slot], false⟩)
      else none
    | none => none
  | _, _, _ => none

/-- How a function is called. 'wr': it may write to what it is handed pointers to; 'refs': slices are handed on as they are;
'adopt': what it made stays memory that may be written. -/
structure Way where
  wr : Bool
  refs : Bool
  adopt : Bool

structure Cfg where
  P : Program
  G : Nat → AV
  /-- Types whose values are compared cell by cell. -/
  eqT : TypeId → List Bool
  way : FuncId → Way
  /-- Functions without a text, by what was proved of them: of values alone. -/
  ext : FuncId → Option (List AV → Option AV)
  /-- Functions that are taken by what was proved of them. -/
  nat : FuncId → Option (List AV → Heap → Option (Out × Heap))
  /-- Which slots are kept behind a region. -/
  keep : FuncId → Nat → Option (List Nat)

/-- These slots alone. -/
def T.picks (t : T) : List Nat → T
  | [] => .e
  | i :: l => (T.picks t l).set i (t.get i)

def prune (id : Nat) (st : St) : St :=
  match st.k id with
  | some l => { st with t := st.t.picks l }
  | none => st

def pruneR (id : Nat) : Option (Ex × St) → Option (Ex × St)
  | some (.normal, st) => some (.normal, prune id st)
  | r => r

def wantedAV (ops : List Oper) (t : T) (o : Oper) : Option Bool :=
  match o.guard with
  | none => some true
  | some (j, want) => match ops[j]? with
    | some p => match p.dst with
      | some d => match t.get d with
        | .v (.bool b) => some (b == want)
        | .undef => none
        | .v _ => some false
        | .tup _ => some false
        | _ => none
      | none => some false
    | none => some false

def allocs : Op → Bool
  | .alloc _ | .box .. | .buildSlice .. | .makeSlice .. | .makeMap .. => true
  | .call c => match c.callee with
    | .builtin .append => true
    | _ => false
  | _ => false

def countAllocs : List Oper → Nat
  | [] => 0
  | o :: l => if allocs o.op then countAllocs l + 1 else countAllocs l

def nextSlot (slot : Nat) (o : Oper) : Nat := if allocs o.op then slot + 1 else slot

def grow (h : Heap) : Nat → Heap
  | 0 => h
  | k + 1 => h ++ List.replicate (k + 1) .dead

/-- Restrict to the regions 'keep', renamed by their place there. -/
def restrict (H : Heap) (keep : List Nat) (σ : Nat → Nat) : Heap := keep.map fun r => match H[r]? with | some g => renReg σ g | none => .dead

def markRo (H : Heap) : List Nat → Heap
  | [] => H
  | r :: l => match H[r]? with
    | some (.arr v _ sz rf e) => markRo (H.set r (.arr v true sz rf e)) l
    | _ => markRo H l

def roReg : Reg → Reg
  | .arr v _ sz rf l => .arr v true sz rf l
  | g => g

def writeBack (H : Heap) (back : Nat → Nat) : List Nat → Heap → Heap
  | r :: rs, g :: gs => writeBack (H.set r (renReg back g)) back rs gs
  | _, _ => H

def getD0 (l : List Nat) (i : Nat) : Nat := match l[i]? with | some x => x | none => 0


def gcσ (n0 : Nat) (live : List Nat) : Nat → Nat := fun r => match Nat.blt r n0 with | true => r | false => n0 + idxOf r live

def gcTo (n0 : Nat) (st : St) (live : List Nat) : St :=
  { st with t := st.t.ren (gcσ n0 live), h := (st.h.take n0).map (renReg (gcσ n0 live)) ++ restrict st.h live (gcσ n0 live), d := st.d.map fun (f, l) => (f, renL (gcσ n0 live) l) }

/-- Behind a round of a loop: what came into being in it, and is reached no more, goes. -/
def gc (n0 : Nat) (st : St) : Option St :=
  match Nat.ble st.h.length n0 with
  | true => some st
  | false =>
    match (st.t.refs ++ (refsL (st.d.map (·.2)).flatten ++ ((st.h.take n0).map regRefs).flatten)).filter (fun r => Nat.ble n0 r) with
    | [] => some { st with h := st.h.take n0 }
    | roots =>
      match reach st.h much [] roots with
      | none => none
      | some all => some (gcTo n0 st (all.filter fun r => Nat.ble n0 r))

def ints : List AV → Option (List Int)
  | [] => some []
  | .v (.int _ b) :: l => match ints l with
    | some r => some (b :: r)
    | none => none
  | _ => none

def toInts (l : List AV) : Option (IntKind × Int × List Int) :=
  match l with
  | .v (.int k a) :: rest => match ints rest with
    | some r => some (k, a, r)
    | none => none
  | _ => none

def isLit : Operand → Bool
  | .const _ => true
  | _ => false

/-! Operations that call no function -/
def vR (h : Heap) : Option AV → Option R
  | some x => some (.val x h fp0)
  | none => none

def pickAV : AV → AV → AV → Option AV
  | .v (.bool true), a, _ => some a
  | .v (.bool false), _, b => some b
  | _, _, _ => none

def opAlloc (P : Program) (slot : Nat) (h : Heap) (e : TypeId) : Option R :=
  match zeroCells P e with | some z => some (newVar h slot z) | none => none

def opBox (slot : Nat) (h : Heap) (x : AV) : Option R :=
  match cells x with | some c => some (newVar h slot c) | none => none

def fieldsOk (P : Program) (fs : Array Field) : Bool := fs.toList.all fun f => (P.info? f.type).isSome

def buildAV (P : Program) (ty : TypeId) (ps : List (Nat × AV)) : Option AV :=
  match zeroCells P ty with
  | none => none
  | some z =>
    match P.underlying ty with
    | some (.struct fs) => if fieldsOk P fs then (match fillAV (fun i => match fs[i]? with | some f => some (f.offset, P.cellsOf f.type) | none => none) z ps with
      | some l => some (.agg l)
      | none => none) else none
    | some (.array _ elem) => if (P.info? elem).isSome then (match fillAV (fun i => some (i * P.cellsOf elem, P.cellsOf elem)) z ps with
      | some l => some (.agg l)
      | none => none) else none
    | _ => none

def opBuildSlice (P : Program) (slot : Nat) (h : Heap) (ty : TypeId) (len : Nat) (ps : List (Nat × AV)) : Option R :=
  match P.underlying ty with
  | some (.slice elem) =>
    match zeroCells P elem with
    | none => none
    | some z =>
      match fillAV (fun i => some (i * P.cellsOf elem, P.cellsOf elem)) (List.replicate len z).flatten ps with
      | some l =>
        if (z.length = P.cellsOf elem ∧ z.length ≠ 0) ∧ len * P.cellsOf elem ≤ 16777216 then
          some (.val (.ref slot 0 0 len) (h.set slot (.arr 0 false z.length (addNew [] (refsL l)) (chunks z.length len l))) ⟨[], [slot], false⟩)
        else none
      | none => none
  | _ => none

def opLoad (P : Program) (h : Heap) (ty : TypeId) (a : AV) : Option R :=
  match loadAV P h ty a with | some (x, f) => some (.val x h f) | none => none

def opStore (P : Program) (h : Heap) (ty : TypeId) (a x : AV) : Option R :=
  match P.underlying ty, storeAV P h ty a x with | some _, some (h, f) => some (.val (.tup []) h f) | _, _ => none

def nilCheckAV : AV → Option AV
  | .ptr a b c d => some (.ptr a b c d)
  | .imm l => some (.imm l)
  | .fn f l => some (.fn f l)
  | _ => none

def opConv (P : Program) (h : Heap) (s d : TypeId) (x : AV) : Option R :=
  match convAV P h s d x with | some y => some (.val y h ⟨rdOf x, [], false⟩) | none => none

def ifaceAV (P : Program) (ty : TypeId) (x : AV) : Option AV :=
  match P.underlying ty, x with
  | some (.interface _), _ => none
  | none, _ => none
  | _, .undef => none
  | _, x => some (.iface ty x)

def opSlice (P : Program) (h : Heap) (ty : TypeId) (x : AV) (lo hi mx : Option AV) : Option R :=
  match sliceAV P h ty x lo hi mx with
  | some (x, h, f) => some (.val x h f)
  | none => none

def fieldAddrAV (P : Program) (s : TypeId) (f : Nat) (x : AV) : Option AV :=
  match fieldOff P s f with
  | some (off, ty) => if P.cellsOf ty = 0 then none else moveBy off x
  | none => none

def fieldAV (P : Program) (s : TypeId) (f : Nat) (x : AV) : Option AV :=
  match fieldOff P s f, x with
  | some (off, ty), .agg l => part P ty l off
  | _, _ => none

def opIndexAddr (P : Program) (h : Heap) (ty : TypeId) (x i : AV) : Option R :=
  match i with
  | .v (.int _ i) => match indexAddrAV P h ty x i with | some y => some (.val y h ⟨rdOf x, [], false⟩) | none => none
  | _ => none

def indexAV' (P : Program) (ty : TypeId) (x i : AV) : Option AV :=
  match i with
  | .v (.int _ i) => indexAV P ty x i
  | _ => none

def assertAV (P : Program) (ty : TypeId) (ok : Bool) (x : AV) : Option AV :=
  match P.underlying ty, x with
  | some (.interface _), _ => none
  | none, _ => none
  | _, .iface ty' x => if ty' = ty then some (if ok then .tup [x, .v (.bool true)] else x) else none
  | _, _ => none

def extractAV (i : Nat) : AV → Option AV
  | .tup l => l[i]?
  | _ => none

def opPanic (h : Heap) : AV → Option R
  | .iface ty x => some (.pan (.iface ty x) h)
  | _ => none

def opLen (P : Program) (h : Heap) (ty : TypeId) (x : AV) : Option R :=
  match P.underlying ty with
  | some (.array n _) => some (.val (.v (.int .i64 n)) h fp0)
  | some (.slice _) => match lenAV x with | some n => some (.val (.v (.int .i64 n)) h fp0) | none => none
  | some .string => match x with | .v (.string s) => some (.val (.v (.int .i64 s.size)) h fp0) | _ => none
  | _ => none

def minAV (l : List AV) : Option AV :=
  match toInts l with
  | some (k, a, r) => some (.v (.int k (r.foldl (fun a b => if b < a then b else a) a)))
  | none => none

def maxAV (l : List AV) : Option AV :=
  match toInts l with
  | some (k, a, r) => some (.v (.int k (r.foldl (fun a b => if b > a then b else a) a)))
  | none => none

/-- What is appended is no count of zeros. -/
def appOk (P : Program) : List TypeId → Bool
  | [_, t] => match P.underlying t with
    | some (.int _) => false
    | some _ => true
    | none => false
  | _ => false

def opBuiltin (P : Program) (slot : Nat) (h : Heap) (b : Builtin) (tys : List TypeId) (l : List AV) : Option R :=
  match b, tys.head?, l with
  | .len, some ty, [x] => opLen P h ty x
  | .append, some ty, [s, x] => if appOk P tys then appendAV P h slot ty s x else none
  | .min, _, l => vR h (minAV l)
  | .max, _, l => vR h (maxAV l)
  | _, _, _ => none

def evO (G : Nat → AV) (t : T) : Option Operand → Option AV
  | some x => some (ev G t x)
  | none => none

def evL (G : Nat → AV) (t : T) : List Operand → List AV
  | [] => []
  | x :: l => ev G t x :: evL G t l

def evP (G : Nat → AV) (t : T) : List (Nat × Operand) → List (Nat × AV)
  | [] => []
  | (i, x) :: l => (i, ev G t x) :: evP G t l

def opFunc (G : Nat → AV) (t : T) (h : Heap) (fn : Fn) (first captured : List Operand) : Option R :=
  match fn, first with
  | .func f, [] => some (.val (.fn f (evL G t captured)) h fp0)
  | _, _ => none

def opCallee (P : Program) (slot : Nat) (h : Heap) (b : Callee) (tys : List TypeId) (l : List AV) : Option R :=
  match b with
  | .builtin b => opBuiltin P slot h b tys l
  | _ => none

/-- An operation that calls no function. -/
def opV (P : Program) (G : Nat → AV) (eqT : TypeId → List Bool) (slot : Nat) (op : Op) (t : T) (h : Heap) : Option R :=
  match op with
  | .move x => some (.val (ev G t x) h fp0)
  | .assign x => some (.val (ev G t x) h fp0)
  | .pick c a b => vR h (pickAV (ev G t c) (ev G t a) (ev G t b))
  | .alloc e => opAlloc P slot h e
  | .box _ x => opBox slot h (ev G t x)
  | .build ty parts => vR h (buildAV P ty (evP G t parts.toList))
  | .buildSlice ty len parts => opBuildSlice P slot h ty len (evP G t parts.toList)
  | .load ty a => opLoad P h ty (ev G t a)
  | .store ty a x => opStore P h ty (ev G t a) (ev G t x)
  | .nilCheck x => vR h (nilCheckAV (ev G t x))
  | .binOp op ty x y _ => vR h (binAV P eqT (isLit x || isLit y) op ty (ev G t x) (ev G t y))
  | .unOp op _ x => vR h (unAV P op (ev G t x))
  | .convert s d x => opConv P h s d (ev G t x)
  | .makeInterface ty x => vR h (ifaceAV P ty (ev G t x))
  | .makeFunc fn first caps => opFunc G t h fn first.toList caps.toList
  | .makeSlice ty l c => makeAV P h slot ty (ev G t l) (ev G t c)
  | .slice ty x lo hi mx => opSlice P h ty (ev G t x) (evO G t lo) (evO G t hi) (evO G t mx)
  | .fieldAddr s x f => vR h (fieldAddrAV P s f (ev G t x))
  | .field s x f => vR h (fieldAV P s f (ev G t x))
  | .indexAddr ty x i => opIndexAddr P h ty (ev G t x) (ev G t i)
  | .index ty x i => vR h (indexAV' P ty (ev G t x) (ev G t i))
  | .typeAssert x _ ty ok => vR h (assertAV P ty ok (ev G t x))
  | .extract x i => vR h (extractAV i (ev G t x))
  | .panic x => opPanic h (ev G t x)
  | .call c => opCallee P slot h c.callee c.argTypes.toList (evL G t c.args.toList)
  | _ => none

def meets (a b : List Nat) : Bool := match a with
  | [] => false
  | x :: l => mem x b || meets l b

def allLt (n : Nat) : List Nat → Bool
  | [] => true
  | r :: l => Nat.blt r n && allLt n l

def within (n : Nat) (f : FP) : Bool := allLt n f.rd && (allLt n f.wr && !f.app)

/-- 'n': how many regions there were at first. -/
def clash (n : Nat) (a b : FP) : Bool :=
  meets a.wr b.rd || (meets a.wr b.wr || (meets b.wr a.rd || ((a.app && !within n b) || (b.app && !within n a))))

/-- No two operations, of which the one does not come before the other, touch the same. -/
def apart (n : Nat) (bef : Array Nat) : List (Nat × FP) → Bool
  | [] => true
  | (j, f) :: l => (l.all fun (i, g) => !(clash n f g) || (bef.getD i 0).testBit j) && apart n bef l

/-- A panic at operation i of n: what need not come before it has turned nothing, and nothing else can come before it. -/
def alone (bef : Array Nat) (n i : Nat) (tr : List (Nat × FP)) : Bool :=
  ((List.range n).all fun k => Nat.ble k i || (bef.getD k 0).testBit i) &&
  (tr.all fun (k, f) => Nat.beq k i || ((bef.getD i 0).testBit k || (f.wr.isEmpty && !f.app)))

def lastOf : List (Nat × FP) → Nat
  | [] => 0
  | [(i, _)] => i
  | _ :: l => lastOf l

def killDst (t : T) : List Oper → T
  | [] => t
  | o :: l => match o.dst with
    | some d => killDst (t.set d .undef) l
    | none => killDst t l

def resE (P : Program) (t : T) (h : Heap) : List ResultVar → Option (List AV)
  | [] => some []
  | .tmp i :: l => match resE P t h l with | some l => some (t.get i :: l) | none => none
  | .cell a ty :: l => match loadAV P h ty (t.get a), resE P t h l with
    | some (x, _), some l => some (x :: l)
    | _, _ => none

def tupOf : List AV → AV
  | [x] => x
  | l => .tup l

/-- What kind of operation it is. -/
inductive Kind where
  | plain
  | call (f : Operand) (args : List Operand)
  | defer (f : Operand) (args : List Operand)
  | recover

def kindOf (op : Op) : Kind :=
  match op with
  | .call c => match c.callee with
    | .value f => .call f c.args.toList
    | .builtin .recover => .recover
    | _ => .plain
  | .defer c => match c.callee with
    | .value f => .defer f c.args.toList
    | _ => .plain
  | _ => .plain

/-- The operations of a region, one behind the other. -/
def runOps (step : Nat → Oper → St → Option (R × List (FuncId × List AV))) (all : List Oper) : Nat → List Oper → Nat → St → Option (Ex × St × List (Nat × FP))
  | _, [], _, st => some (.normal, st, [])
  | slot, o :: rest, i, st =>
    match wantedAV all st.t o with
    | none => none
    | some false => match runOps step all (nextSlot slot o) rest (i + 1) { st with t := putT st.t o.dst (.tup []) } with
      | some (ex, st, tr) => some (ex, st, (i, fp0) :: tr)
      | none => none
    | some true =>
      match step slot o st with
      | some (.val x h f, d) => match runOps step all (nextSlot slot o) rest (i + 1) { st with t := putT st.t o.dst x, h := h, d := d } with
        | some (ex, st, tr) => some (ex, st, (i, f) :: tr)
        | none => none
      | some (.pan x h, d) => some (.pan x, { st with h := h }, [(i, fp0)])
      | none => none

def regionE (step : Nat → Oper → St → Option (R × List (FuncId × List AV))) (ops : Array Oper) (draw : Bool) (st : St) : Option (Ex × St) :=
  match runOps step ops.toList st.h.length ops.toList 0 { st with h := grow st.h (countAllocs ops.toList) } with
  | some (ex, st', tr) =>
    match draw with
    | true => match ex with
      | .normal => if apart (st.h.length + countAllocs ops.toList) (Region.before ops) tr then some (.normal, st') else none
      | .pan x => if apart (st.h.length + countAllocs ops.toList) (Region.before ops) tr && alone (Region.before ops) ops.toList.length (lastOf tr) tr then some (.pan x, { st' with t := killDst st.t ops.toList }) else none
      | _ => none
    | false => some (ex, st')
  | none => none

def sameVer : Heap → Heap → Bool
  | [], _ => true
  | .arr v _ _ _ _ :: l, .arr v' _ _ _ _ :: l' => Nat.beq v v' && sameVer l l'
  | .dead :: l, .dead :: l' => sameVer l l'
  | _, _ => false

def keeps (live0 : List Nat) : AV → Bool
  | .ref r _ _ _ => mem r live0
  | _ => false

/-- The parts of a result that go by value. -/
def outRefs (live0 : List Nat) : List AV → List Nat
  | [] => []
  | x :: l => match keeps live0 x with
    | true => outRefs live0 l
    | false => slRefs x ++ outRefs live0 l

def freeze1 (h : Heap) (S live0 : List Nat) (x : AV) : Option AV :=
  match keeps live0 x with
  | true => some x
  | false => freezeN h S much x

/-- A result by value, but for what the regions handed on reach. -/
def freezeOut (h : Heap) (S live0 : List Nat) : List AV → Option (List AV)
  | [] => some []
  | x :: l => match freeze1 h S live0 x, freezeOut h S live0 l with
    | some x, some l => some (x :: l)
    | _, _ => none

/-- What a result becomes, and which regions were read for it. -/
def outOf (way : Way) (h' : Heap) (live0 : List Nat) (x : AV) : Option (List Nat × AV) :=
  match way.adopt with
  | true => some ([], x)
  | false => match x with
    | .tup l => (match reach h' much [] (outRefs live0 l) with
      | none => none
      | some S => match freezeOut h' S live0 l with
        | some l => some (S, .tup l)
        | none => none)
    | x => match reach h' much [] (outRefs live0 [x]) with
      | none => none
      | some S => match freeze1 h' S live0 x with
        | some x => some (S, x)
        | none => none

def baseOf (live : List Nat) (n : Nat) : Nat :=
  match live with
  | [] => 0
  | _ => n

/-- What may be written no more behind a call. -/
def marksOf (wr sl : Bool) (live froz roots : List Nat) : List Nat :=
  match wr || (sl || !live.isEmpty), wr with
  | true, true => froz
  | true, false => froz ++ roots
  | false, _ => []

def ifWr (wr : Bool) (l : List Nat) : List Nat :=
  match wr with
  | true => l
  | false => []

def outσ (roots live : List Nat) (b : Nat) : Nat → Nat := fun r => match Nat.blt r roots.length with | true => getD0 roots r | false => b + idxOf r live

def wroteBack (wr : Bool) (h : Heap) (σ : Nat → Nat) (roots : List Nat) (h' : Heap) : Heap :=
  match wr with
  | true => writeBack h σ roots h'
  | false => h

/-- Out of a call's memory h' into the caller's h: 'x' is its result. -/
def backTo (wr : Bool) (froz roots live : List Nat) (h h' : Heap) (x : AV) : AV × Heap × FP :=
  (ren (outσ roots live (baseOf live h.length)) x,
    wroteBack wr (markRo h (marksOf wr (hasSl x) live froz roots)) (outσ roots live (baseOf live h.length)) roots h' ++ restrict h' live (outσ roots live (baseOf live h.length)),
    ⟨froz ++ roots, ifWr wr roots ++ marksOf wr (hasSl x) live froz roots, !live.isEmpty⟩)

/-- Behind a call. -/
def back (way : Way) (froz roots : List Nat) (h hc h' : Heap) (x : AV) : Option (AV × Heap × FP) :=
  match (match way.wr with | true => reach h' much [] (List.range roots.length) | false => some (List.range roots.length)) with
  | none => none
  | some live0 => match outOf way h' live0 x with
    | none => none
    | some (froz2, x) => match reach h' much live0 (refs x) with
      | none => none
      | some all => match (!(meets froz2 all) && Nat.ble roots.length h'.length) && (way.wr || sameVer hc h') with
        | true => some (backTo way.wr froz roots (all.filter fun r => Nat.ble roots.length r) h h' x)
        | false => none

def inOf (way : Way) (args : List AV) (h : Heap) : Option (List Nat × List AV) :=
  match way.refs with
  | true => some ([], args)
  | false => match reach h much [] (slRefsL args) with
    | none => none
    | some S => match freezeC h S much args with
      | some l => some (S, l)
      | none => none

def memFor (wr : Bool) (roots : List Nat) (h : Heap) : Heap :=
  match wr with
  | true => restrict h roots (fun r => idxOf r roots)
  | false => (restrict h roots (fun r => idxOf r roots)).map roReg

/-- A call out of memory h: 'run' is run on what the arguments reach. -/
def callBy (run : List AV → Heap → Option (Out × Heap)) (way : Way) (args : List AV) (h : Heap) : Option R :=
  match inOf way args h with
  | none => none
  | some (froz, args) => match reach h much [] (refsL args) with
    | none => none
    | some roots => match meets froz roots || !(allLt h.length froz && allLt h.length roots) with
      | true => none
      | false => match run (renL (fun r => idxOf r roots) args) (memFor way.wr roots h) with
        | some (.ret x, h') => (match back way froz roots h (memFor way.wr roots h) h' x with | some (x, h, f) => some (.val x h f) | none => none)
        | some (.pan x, h') => (match back way froz roots h (memFor way.wr roots h) h' x with | some (x, h, _) => some (.pan x h) | none => none)
        | none => none

def finR (P : Program) (fn : Func) (t : T) (h : Heap) : Option (Out × Heap) :=
  match resE P t h fn.results.toList with
  | some l => some (.ret (tupOf l), h)
  | none => none

/-- In a deferred call: the region that asks what there is to recover. -/
def runOpsD (step : Nat → Oper → St → Option (R × List (FuncId × List AV))) (all : List Oper) : Nat → List Oper → Nat → St → Option AV → Option (St × Option AV)
  | _, [], _, st, p => some (st, p)
  | slot, o :: rest, i, st, p =>
    match wantedAV all st.t o with
    | none => none
    | some false => runOpsD step all (nextSlot slot o) rest (i + 1) { st with t := putT st.t o.dst (.tup []) } p
    | some true =>
      match kindOf o.op with
      | .recover => runOpsD step all (nextSlot slot o) rest (i + 1) { st with t := putT st.t o.dst (match p with | some x => x | none => .v .nilIface) } none
      | _ => match step slot o st with
        | some (.val x h f, d) => runOpsD step all (nextSlot slot o) rest (i + 1) { st with t := putT st.t o.dst x, h := h, d := d } p
        | _ => none

def asks : List Oper → Bool
  | [] => false
  | o :: l => match kindOf o.op with
    | .recover => true
    | _ => asks l

/-- Fields of one cell each, as the shape says, from i on. -/
def flatFields (P : Program) : List Bool → List Field → Nat → Bool
  | [], [], _ => true
  | s :: sh, f :: fs, i => (f.name != "_" && (Nat.beq f.offset i && (match s, P.underlying f.type with | true, some (.int _) => true | false, some .bool => true | _, _ => false))) && flatFields P sh fs (i + 1)
  | _, _, _ => false

def eqTOk (P : Program) (t : TypeId) (sh : List Bool) : Bool :=
  match P.underlying t with
  | some (.struct fs) => (!P.stoodInHeld t && !(P.eqGuardType P.depth t)) && flatFields P sh fs.toList 0
  | _ => false

/-! What is to hold of a program's text -/
def gtmp (all : List Oper) (o : Oper) : Option Tmp := match o.guard with | some (j, _) => (match all[j]? with | some p => p.dst | none => none) | none => none

/-- b does not look at what a puts. -/
def blind (all : List Oper) (a b : Oper) : Bool :=
  match a.dst with
  | none => true
  | some d => (b.op.operands.toList.all fun x => match x with | .tmp i => !(Nat.beq i d) | _ => true) && ((match b.dst with | some i => !(Nat.beq i d) | none => true) && (match gtmp all b with | some i => !(Nat.beq i d) | none => true))

def drawOk (ops : Array Oper) : Bool :=
  (List.range ops.toList.length).all fun b => match ops.toList[b]? with
    | none => true
    | some ob => (ob.after.toList.all fun e => !(Region.binds .any e) || Nat.blt e.on b) &&
      (List.range b).all fun a => match ops.toList[a]? with
        | none => true
        | some oa => ((Region.before ops).getD b 0).testBit a || (blind ops.toList oa ob && blind ops.toList ob oa)

def dstOk (m : Nat) (o : Oper) : Bool := match o.dst with | some d => Nat.blt d m | none => true

def codeOk (m : Nat) : Code → Bool
  | .seq a b => codeOk m a && codeOk m b
  | .cond _ a b => codeOk m a && codeOk m b
  | .block _ b => codeOk m b
  | .scope b => codeOk m b
  | .loop b => codeOk m b
  | .region _ ops draw => (ops.toList.all fun o => dstOk m o) && (!draw || drawOk ops)
  | _ => true

def progOk (P : Program) : Bool := P.funcs.toList.all fun fn => match fn.body with
  | some c => codeOk fn.ntmps c
  | none => true

/-- Without a deferred call. -/
def noDefer (step : Nat → Oper → St → Option (R × List (FuncId × List AV))) : Nat → Oper → St → Option (R × List (FuncId × List AV)) := fun slot o st => match kindOf o.op with
  | .defer _ _ => none
  | _ => step slot o st

def stepOf (draw : Bool) (step : Nat → Oper → St → Option (R × List (FuncId × List AV))) : Nat → Oper → St → Option (R × List (FuncId × List AV)) :=
  match draw with
  | true => noDefer step
  | false => step

def opP (E : Cfg) (slot : Nat) (op : Op) (st : St) : Option R :=
  match allocs op with
  | true => match st.h[slot]? with
    | some .dead => (match opV E.P E.G E.eqT slot op st.t st.h with
      | some (.val x h f) => some (.val x h ⟨slot :: f.rd, f.wr, f.app⟩)
      | r => r)
    | _ => none
  | false => opV E.P E.G E.eqT slot op st.t st.h

mutual
def exec (E : Cfg) : Nat → Code → St → Option (Ex × St)
  | 0, _, _ => none
  | n + 1, c, st =>
    match c with
    | .skip => some (.normal, st)
    | .label _ => some (.normal, st)
    | .seq a b => match exec E n a st with
      | some (.normal, st) => exec E n b st
      | r => r
    | .cond c a b => match ev E.G st.t c with
      | .v (.bool true) => exec E n a st
      | .v (.bool false) => exec E n b st
      | _ => none
    | .block id b => match exec E n b st with
      | some (.exit id', st) => if id' = id then some (.normal, st) else some (.exit id', st)
      | r => r
    | .scope b => exec E n b st
    | .loop b => loopE E n b st.h.length st.t st
    | .exit id => some (.exit id, st)
    | .ret => some (.ret, st)
    | .region id ops draw => pruneR id (regionE (stepOf draw (fun slot o st => opE E n slot o st)) ops draw st)
    | _ => none
  termination_by structural n => n

def loopE (E : Cfg) : Nat → Code → Nat → T → St → Option (Ex × St)
  | 0, _, _, _, _ => none
  | n + 1, b, n0, t0, st =>
    match exec E n b st with
    | some (.normal, st) => match gc n0 { st with t := t0.like st.t } with
      | some st => loopE E n b n0 t0 st
      | none => none
    | r => r
  termination_by structural n => n

def opE (E : Cfg) : Nat → Nat → Oper → St → Option (R × List (FuncId × List AV))
  | 0, _, _, _ => none
  | n + 1, slot, o, st =>
    match kindOf o.op with
    | .plain => match opP E slot o.op st with
        | some r => some (r, st.d)
        | none => none
    | .call f args => match ev E.G st.t f with
        | .fn f caps => match callE E n f (evL E.G st.t args ++ caps) st.h with
          | some r => some (r, st.d)
          | none => none
        | _ => none
    | .defer f args => match ev E.G st.t f with
        | .fn f caps => some (.val (.tup []) st.h fp0, (f, evL E.G st.t args ++ caps) :: st.d)
        | _ => none
    | .recover => none
  termination_by structural n => n

def callE (E : Cfg) : Nat → FuncId → List AV → Heap → Option R
  | 0, _, _, _ => none
  | n + 1, f, args, h =>
    match E.ext f with
    | some g => match g args with
      | some x => some (.val x h fp0)
      | none => none
    | none => callBy (fun args h => callF E n f args h) (E.way f) args h
  termination_by structural n => n

def callF (E : Cfg) : Nat → FuncId → List AV → Heap → Option (Out × Heap)
  | 0, _, _, _ => none
  | n + 1, f, args, h =>
    match E.nat f with
    | some g => g args h
    | none =>
    match E.P.funcs.toList[f]? with
    | none => none
    | some fn => match fn.body with
      | none => none
      | some c =>
        match exec E n c { t := T.e.ofList 0 args, h := h, d := [], k := E.keep f } with
        | some (.normal, st) => finE E n fn st none
        | some (.ret, st) => finE E n fn st none
        | some (.pan x, st) => finE E n fn st (some x)
        | _ => none
  termination_by structural n => n

/-- The end of a function: what is deferred is called; then the results are read. -/
def finE (E : Cfg) : Nat → Func → St → Option AV → Option (Out × Heap)
  | 0, _, _, _ => none
  | n + 1, fn, st, p =>
    match st.d with
    | [] => match p with
      | some x => some (.pan x, st.h)
      | none => finR E.P fn st.t st.h
    | (f, args) :: ds =>
      match E.P.funcs.toList[f]? with
      | none => none
      | some g => match g.body with
        | none => none
        | some c =>
          match execD E n c { t := T.e.ofList 0 args, h := st.h, d := [], k := E.keep f } p with
          | some (.normal, st', p') => (match st'.d, finR E.P g st'.t st'.h with | [], some _ => finE E n fn { st with h := st'.h, d := ds } p' | _, _ => none)
          | some (.ret, st', p') => (match st'.d, finR E.P g st'.t st'.h with | [], some _ => finE E n fn { st with h := st'.h, d := ds } p' | _, _ => none)
          | _ => none
  termination_by structural n => n

/-- The text of a deferred call; 'p' is what there is to recover. -/
def execD (E : Cfg) : Nat → Code → St → Option AV → Option (Ex × St × Option AV)
  | 0, _, _, _ => none
  | n + 1, c, st, p =>
    match c with
    | .seq a b => match execD E n a st p with
      | some (.normal, st, p) => execD E n b st p
      | r => r
    | .cond c a b => match ev E.G st.t c with
      | .v (.bool true) => execD E n a st p
      | .v (.bool false) => execD E n b st p
      | _ => none
    | .region id ops draw => match asks ops.toList && !draw with
      | true => match runOpsD (fun slot o st => opE E n slot o st) ops.toList st.h.length ops.toList 0 { st with h := grow st.h (countAllocs ops.toList) } p with
        | some (st, p) => some (.normal, st, p)
        | none => none
      | false => match exec E n (.region id ops draw) st with
        | some (ex, st) => some (ex, st, p)
        | none => none
    | c => match exec E n c st with
      | some (ex, st) => some (ex, st, p)
      | none => none
  termination_by structural n => n
end
end Go.AM
