/- The evaluator: what an operation, a region, a piece of code does to the abstract state. Definitions alone. No condition. -/
import Derived.Test.YtoknhjmcoleejaaEA
set_option linter.unusedVariables false
set_option linter.unusedSimpArgs false
namespace Go.Proofs.Ytoknhjmcoleejaa

/-! ### lists by number -/
def look {α : Type} : List (Nat × α) → Nat → Option α
  | [], _ => none
  | p :: l, n => bif Nat.beq p.1 n then some p.2 else look l n
def put {α : Type} : List (Nat × α) → Nat → α → List (Nat × α)
  | [], n, x => [(n, x)]
  | p :: l, n, x => bif Nat.beq p.1 n then (n, x) :: l else p :: put l n x
def del {α : Type} : List (Nat × α) → Nat → List (Nat × α)
  | [], _ => []
  | p :: l, n => bif Nat.beq p.1 n then del l n else p :: del l n
def mapV {α : Type} (f : α → α) : List (Nat × α) → List (Nat × α)
  | [] => []
  | p :: l => (p.1, f p.2) :: mapV f l
def nmem (n : Nat) : List Nat → Bool
  | [] => false
  | m :: l => bif Nat.beq m n then true else nmem n l

abbrev Tag := Option (Nat × Bool)
/-- The state inside a region: a slot's tag says under which guard it was written. -/
structure RS where
  s : List (Nat × (Tag × AV))
  b : List (Nat × Blk)
/-- The state between regions. -/
structure St where
  s : List (Nat × AV)
  b : List (Nat × Blk)

def inb (i : Int) (n : Nat) : Bool := decide (0 ≤ i) && decide (i < n)

def isNil {α : Type} : List α → Bool
  | [] => true
  | _ => false
/-! ### references -/
def killC (b : Nat) : C → C
  | .ptr c o => bif Nat.beq c b then .undef else .ptr c o
  | .elt k c i o => bif Nat.beq c b then .undef else .elt k c i o
  | .own c => bif Nat.beq c b then .undef else .own c
  | .mp c => bif Nat.beq c b then .undef else .mp c
  | x => x
def killV1 (b : Nat) : V1 → V1
  | .c x => .c (killC b x)
  | .agg cs => .agg (cs.map (killC b))
def killAV (b : Nat) : AV → AV
  | .v x => .v (killV1 b x)
  | .tup l => .tup (l.map (killV1 b))
  | .fn f l => .fn f (l.map (killV1 b))
def killBlk (b : Nat) : Blk → Blk
  | .box cs t => .box (cs.map (killC b)) t
  | .lit k css => .lit k (css.map fun cs => cs.map (killC b))
  | x => x
def killRS (b : Nat) (r : RS) : RS := ⟨mapV (fun p => (p.1, killAV b p.2)) r.s, mapV (killBlk b) (del r.b b)⟩
def killL : List Nat → RS → RS
  | [], r => r
  | b :: l, r => killL l (killRS b r)
def killLV : List Nat → AV → AV
  | [], x => x
  | b :: l, x => killLV l (killAV b x)

def refC : C → List Nat
  | .ptr b _ => [b]
  | .elt _ b _ _ => [b]
  | .own b => [b]
  | .mp b => [b]
  | _ => []
def refCs (l : List C) : List Nat := l.flatMap refC
def refV1 : V1 → List Nat
  | .c x => refC x
  | .agg cs => refCs cs
def refAV : AV → List Nat
  | .v x => refV1 x
  | .tup l => l.flatMap refV1
  | .fn _ l => l.flatMap refV1
def refBlk : Blk → List Nat
  | .box cs _ => refCs cs
  | .lit _ css => css.flatMap refCs
  | _ => []

/-! ### operands -/
def opd (r : RS) : Operand → Option (Tag × AV)
  | .tmp t => look r.s t
  | .const v => bif v.oneCell' then some (none, .v (.c (.val v))) else none
  | .func f => some (none, .fn f [])
  | .global _ => none
def tagIn (ch : List (Nat × Bool)) : Tag → Bool
  | none => true
  | some (j, w) => ch.any fun p => Nat.beq p.1 j && (bif w then p.2 else !p.2)
def dstOf (ops : Array Oper) (j : Nat) : Option Nat := (ops[j]?).bind (·.dst)
def chainOf (ops : Array Oper) (r : RS) : Nat → Nat × Bool → List (Nat × Bool)
  | 0, p => [p]
  | n + 1, p => p :: match (dstOf ops p.1).bind (look r.s ·) with
    | some (some t, _) => chainOf ops r n t
    | _ => []
def gexp (ops : Array Oper) (r : RS) : Nat → Nat × Bool → Option Bool
  | 0, _ => none
  | n + 1, p => match (dstOf ops p.1).bind (look r.s ·) with
    | some (none, .v (.c (.val (.bool g)))) => some (bif p.2 then g else !g)
    | some (some t, .v (.c (.val (.bool g)))) => match gexp ops r n t with
      | some e => some (e && (bif p.2 then g else !g))
      | none => none
    | _ => none
def rho (r : RS) (ch : List (Nat × Bool)) (x : Operand) : Option AV :=
  match opd r x with
  | some (t, v) => bif tagIn ch t then some v else none
  | none => none
def rhos (r : RS) (ch : List (Nat × Bool)) : List Operand → Option (List AV)
  | [] => some []
  | x :: l => match rho r ch x, rhos r ch l with
    | some v, some vs => some (v :: vs)
    | _, _ => none
def v1s : List AV → Option (List V1)
  | [] => some []
  | .v x :: l => match v1s l with
    | some xs => some (x :: xs)
    | none => none
  | _ :: _ => none

/-! ### cells -/
def V1.cs : V1 → List C
  | .c x => [x]
  | .agg cs => cs
def splice (cs : List C) (off : Nat) (vs : List C) : List C := cs.take off ++ (vs ++ cs.drop (off + vs.length))
def tySize (t : TypeId) : Option Nat := match look TT t with | some x => some x.size | none => none
def isAggT (t : TypeId) : Option Bool := match look TT t with | some ⟨.agg _, _, _⟩ => some true | some _ => some false | none => none
def sliceK (t : TypeId) : Option K := match look TT t with | some ⟨.slice k, _, _⟩ => some k | _ => none
def mkV (t : TypeId) (cs : List C) : Option V1 :=
  match look TT t with
  | some ⟨.agg _, n, _⟩ => bif Nat.beq cs.length n then some (.agg cs) else none
  | some ⟨_, _, _⟩ => match cs with | [c] => some (.c c) | _ => none
  | none => none
def fits (t : TypeId) (x : V1) : Bool :=
  match look TT t, x with
  | some ⟨.agg _, n, _⟩, .agg cs => Nat.beq cs.length n
  | some ⟨.agg _, _, _⟩, .c _ => false
  | some ⟨_, _, _⟩, .c _ => true
  | _, _ => false

/-- The result of an operation: what must hold, the value, a new block at the slot's own name, blocks written, a row whose elder references end, blocks read. -/
structure OR where
  cs : List Bool
  v : AV
  nb : Option Blk
  wb : List (Nat × Blk)
  kl : List Nat
  rb : List Nat
def rPure (v : AV) : OR := ⟨[], v, none, [], [], []⟩
def rC (c : C) : OR := rPure (.v (.c c))

/-- Cells, the slices among them hidden. -/
def hide : List C → List C
  | [] => []
  | .sl _ _ :: l => .undef :: hide l
  | c :: l => c :: hide l
/-- Where a pointer points: what must hold, the cells from there on, the block. -/
def readAt (r : RS) : C → Option (List Bool × List C × List Nat)
  | .ptr b off => match look r.b b with
    | some (.box cs _) => some ([], cs.drop off, [b])
    | _ => none
  | .rel k x off => some ([], (cells k x).drop off, [])
  | .elt k b i off => match look r.b b with
    | some (.arr k' xs) => bif Nat.beq k.no k'.no then some ([inb i xs.length], (cells k' (xs.getD i.toNat (zero k'))).drop off, [b]) else none
    | some (.deep k' xs _) => bif Nat.beq k.no k'.no then some ([inb i xs.length], (hide (cells k' (xs.getD i.toNat (zero k')))).drop off, [b]) else none
    | _ => none
  | _ => none
def evLoad (r : RS) (t : TypeId) (p : AV) : Option OR :=
  match p with
  | .v (.c c) => match readAt r c, tySize t with
    | some (cs, l, rb), some n => match mkV t (l.take n) with
      | some v => some ⟨cs, .v v, none, [], [], rb⟩
      | none => none
    | _, _ => none
  | _ => none
/-- A row that an element owns, read: it is taken out, under the name of the slot. -/
def evTake (r : RS) (d : Option Nat) (t : TypeId) (p : AV) : Option OR :=
  match p, sliceK t, d with
  | .v (.c (.elt k b i off)), some k', some d => match look r.b b with
    | some (.deep k2 xs none) => bif Nat.beq k.no k2.no then match (cells k2 (xs.getD i.toNat (zero k2)))[off]? with
      | some (.sl k3 ys) => bif Nat.beq k'.no k3.no then some ⟨[inb i xs.length], .v (.c (.own d)), some (.arr k3 ys), [(b, .deep k2 xs (some (i, off)))], [], [b]⟩ else none
      | _ => none
      else none
    | _ => none
  | _, _, _ => none
/-- A row of one's own put back where one was taken out. -/
def evFill (r : RS) (t : TypeId) (p x : AV) : Option OR :=
  match p, x with
  | .v (.c (.elt k b i off)), .v (.c (.own q)) => match look r.b b, look r.b q with
    | some (.deep k2 xs (some (i', off'))), some (.arr k3 ys) => match (cells k2 (xs.getD i.toNat (zero k2)))[off]?, sliceK t with
      | some (.sl k4 _), some k5 => bif Nat.beq k.no k2.no && Nat.beq off off' && Nat.beq k3.no k4.no && Nat.beq k3.no k5.no then match ofCells k2 (splice (cells k2 (xs.getD i.toNat (zero k2))) off [.sl k3 ys]) with
        | some y => some ⟨[inb i xs.length, decide (i = i')], .v (.c .undef), none, [(b, .deep k2 (xs.set i.toNat y) none)], [q], [b, q]⟩
        | none => none
        else none
      | _, _ => none
    | _, _ => none
  | _, _ => none
def evStore (r : RS) (t : TypeId) (p x : AV) : Option OR :=
  match p, x with
  | .v (.c (.ptr b off)), .v x => match look r.b b with
    | some (.box cs u) => bif fits t x && Nat.ble (off + x.cs.length) cs.length then some ⟨[], .v (.c .undef), none, [(b, .box (splice cs off x.cs) u)], [], [b]⟩ else none
    | _ => none
  | .v (.c (.elt k b i off)), .v x => match look r.b b with
    | some (.arr k' xs) => bif fits t x && Nat.beq k.no k'.no && Nat.ble (off + x.cs.length) (width k') then match ofCells k' (splice (cells k' (xs.getD i.toNat (zero k'))) off x.cs) with
      | some y => some ⟨[inb i xs.length], .v (.c .undef), none, [(b, .arr k' (xs.set i.toNat y))], [], [b]⟩
      | none => none
      else none
    | _ => none
  | _, _ => none
def evField (s : TypeId) (p : AV) (f : Nat) : Option OR :=
  match look TT s with
  | some ⟨.agg fs, _, _⟩ => match fs[f]? with
    | some (o, _) => match p with
      | .v (.c (.ptr b off)) => some (rC (.ptr b (off + o)))
      | .v (.c (.rel k x off)) => some (rC (.rel k x (off + o)))
      | .v (.c (.elt k b i off)) => some (rC (.elt k b i (off + o)))
      | _ => none
    | none => none
  | _ => none
def evIndex (r : RS) (t : TypeId) (x i : AV) : Option OR :=
  match x, i with
  | .v (.c (.sl k xs)), .v (.c (.val (.int _ i))) => match sliceK t with
    | some k' => bif Nat.beq k.no k'.no then some ⟨[inb i xs.length], .v (.c (.rel k (xs.getD i.toNat (zero k)) 0)), none, [], [], []⟩ else none
    | none => none
  | .v (.c (.own b)), .v (.c (.val (.int _ i))) => match look r.b b, sliceK t with
    | some (.arr k xs), some k' => bif Nat.beq k.no k'.no then some ⟨[inb i xs.length], .v (.c (.elt k b i 0)), none, [], [], [b]⟩ else none
    | some (.deep k xs _), some k' => bif Nat.beq k.no k'.no then some ⟨[inb i xs.length], .v (.c (.elt k b i 0)), none, [], [], [b]⟩ else none
    | _, _ => none
  | _, _ => none
def fillParts (fs : List (Nat × TypeId)) : List C → List (Nat × V1) → Option (List C)
  | cs, [] => some cs
  | cs, (i, x) :: l => match fs[i]? with
    | some (off, t) => match tySize t with
      | some n => bif Nat.beq x.cs.length n && Nat.ble (off + n) cs.length then fillParts fs (splice cs off x.cs) l else none
      | none => none
    | none => none
def partVs (r : RS) (ch : List (Nat × Bool)) : List (Nat × Operand) → Option (List (Nat × V1))
  | [] => some []
  | (i, x) :: l => match rho r ch x, partVs r ch l with
    | some (.v v), some vs => some ((i, v) :: vs)
    | _, _ => none
def evBuild (r : RS) (ch : List (Nat × Bool)) (t : TypeId) (ps : List (Nat × Operand)) : Option OR :=
  match look TT t, partVs r ch ps with
  | some ⟨.agg fs, _, z⟩, some vs => match fillParts fs z vs with
    | some cs => some (rPure (.v (.agg cs)))
    | none => none
  | _, _ => none
/-- The elements of a literal: all given, in their order. -/
def litElems (k : K) : Nat → List (Nat × V1) → Option (List (ty k))
  | _, [] => some []
  | n, (i, x) :: l => bif Nat.beq i n && Nat.beq x.cs.length (width k) then match ofCells k x.cs, litElems k (n + 1) l with
    | some y, some ys => some (y :: ys)
    | _, _ => none
    else none
/-- The elements of a literal by their cells. -/
def litCss (k : K) : Nat → List (Nat × V1) → Option (List (List C))
  | _, [] => some []
  | n, (i, x) :: l => bif Nat.beq i n && Nat.beq x.cs.length (width k) then match litCss k (n + 1) l with
    | some m => some (x.cs :: m)
    | none => none
    else none
/-- Do elements of the kind have rows of their own? -/
def deepK : K → Bool
  | .lsa => true
  | .port => true
  | _ => false
def evBuildSlice (r : RS) (ch : List (Nat × Bool)) (d : Option Nat) (t : TypeId) (n : Nat) (ps : List (Nat × Operand)) : Option OR :=
  match sliceK t, partVs r ch ps, d with
  | some k, some vs, some d => bif Nat.beq vs.length n && Nat.ble n 64 then bif deepK k then match litCss k 0 vs with
      | some css => some ⟨[], .v (.c (.own d)), some (.lit k css), [], [], []⟩
      | none => none
    else match litElems k 0 vs with
      | some xs => some ⟨[], .v (.c (.own d)), some (.arr k xs), [], [], []⟩
      | none => none
    else none
  | _, _, _ => none
def aggEq : List C → List C → Option Bool
  | [], [] => some true
  | .val (.int .i64 a) :: l, .val (.int .i64 b) :: m => match aggEq l m with
    | some e => some ((a == b) && e)
    | none => none
  | _, _ => none
def ibits (op : BinOp) (k : IntKind) (x y : Int) : Option Int :=
  match op with
  | .and => some (k.wrap ((BitVec.ofInt k.bits x &&& BitVec.ofInt k.bits y).toNat : Nat))
  | .or => some (k.wrap ((BitVec.ofInt k.bits x ||| BitVec.ofInt k.bits y).toNat : Nat))
  | .xor => some (k.wrap ((BitVec.ofInt k.bits x ^^^ BitVec.ofInt k.bits y).toNat : Nat))
  | _ => none
/-- The types whose values are compared by their cells, all of them numbers. -/
def eqTs : List Nat := [38, 40, 42, 80, 97, 112]
def evBin (op : BinOp) (t : TypeId) (x y : AV) : Option OR :=
  match x, y with
  | .v (.c (.val (.int k a))), .v (.c (.val (.int k' b))) =>
    match op with
    | .shl => some ⟨[decide (0 ≤ b)], .v (.c (.val (.int k (k.wrap (a * 2 ^ (min b.toNat k.bits)))))), none, [], [], []⟩
    | .shr => some ⟨[decide (0 ≤ b)], .v (.c (.val (.int k (a.fdiv (2 ^ (min b.toNat k.bits)))))), none, [], [], []⟩
    | _ => bif decide (k = k') then match op with
      | .add => some (rC (.val (.int k (k.wrap (a + b)))))
      | .sub => some (rC (.val (.int k (k.wrap (a - b)))))
      | .mul => some (rC (.val (.int k (k.wrap (a * b)))))
      | .quo => some ⟨[b != 0], .v (.c (.val (.int k (k.wrap (a.tdiv b))))), none, [], [], []⟩
      | .rem => some ⟨[b != 0], .v (.c (.val (.int k (a.tmod b)))), none, [], [], []⟩
      | .eql => some (rC (bo (a == b)))
      | .neq => some (rC (bo (a != b)))
      | .lss => some (rC (bo (decide (a < b))))
      | .leq => some (rC (bo (decide (a ≤ b))))
      | .gtr => some (rC (bo (decide (a > b))))
      | .geq => some (rC (bo (decide (a ≥ b))))
      | op => match ibits op k a b with
        | some n => some (rC (.val (.int k n)))
        | none => none
      else none
  | .v (.c (.val (.bool a))), .v (.c (.val (.bool b))) => match op, Nat.beq t 4 with
    | .eql, true => some (rC (bo (a == b)))
    | .neq, true => some (rC (bo (!(a == b))))
    | _, _ => none
  | .v (.agg l), .v (.agg m) => bif nmem t eqTs && fits t (.agg l) && fits t (.agg m) then match op, aggEq l m with
    | .eql, some e => some (rC (bo e))
    | .neq, some e => some (rC (bo (!e)))
    | _, _ => none
    else none
  | _, _ => none
def lenOf (r : RS) : AV → Option (Nat × List Nat)
  | .v (.c (.sl _ xs)) => some (xs.length, [])
  | .v (.c (.own b)) => match look r.b b with
    | some (.arr _ xs) => some (xs.length, [b])
    | some (.deep _ xs _) => some (xs.length, [b])
    | _ => none
  | .v (.c (.val (.slice none 0 0))) => some (0, [])
  | _ => none
/-- What a slice that is appended holds. -/
def elemsOf (r : RS) (k : K) : AV → Option (List (ty k) × List Nat)
  | .v (.c (.sl k' xs)) => if h : k'.no = k.no then some ((K.no_inj h) ▸ xs, []) else none
  | .v (.c (.own b)) => match look r.b b with
    | some (.arr k' xs) => if h : k'.no = k.no then some ((K.no_inj h) ▸ xs, [b]) else none
    | _ => none
  | .v (.c (.val (.slice none 0 0))) => some ([], [])
  | _ => none
where K.no_inj {a b : K} (h : a.no = b.no) : a = b := by cases a <;> cases b <;> first | rfl | (exact absurd h (by decide))
def roomy (n m w : Nat) : Bool := Nat.ble ((n + m) * w) 140737488355328
/-- A cell whose row goes over to a new owner. -/
def absC (r : RS) : C → Option (C × List Nat)
  | .own q => match look r.b q with
    | some (.arr k ys) => some (.sl k ys, [q])
    | _ => none
  | .val v => some (.val v, [])
  | _ => none
def absCs (r : RS) : List C → Option (List C × List Nat)
  | [] => some ([], [])
  | c :: l => match absC r c, absCs r l with
    | some (c', ns), some (l', ms) => some (c' :: l', ns ++ ms)
    | _, _ => none
def absEls (r : RS) (k : K) : List (List C) → Option (List (ty k) × List Nat)
  | [] => some ([], [])
  | cs :: l => match absCs r cs, absEls r k l with
    | some (cs', ns), some (xs, ms) => match ofCells k cs' with
      | some x => some (x :: xs, ns ++ ms)
      | none => none
    | _, _ => none
def nodupB : List Nat → Bool
  | [] => true
  | n :: l => !(nmem n l) && nodupB l
/-- Elements with rows of their own go over into a row. -/
def evAppendD (r : RS) (d : Option Nat) (t : TypeId) (s x : AV) : Option OR :=
  match sliceK t, x with
  | some k, .v (.c (.own q)) => match look r.b q with
    | some (.lit k1 css) => bif Nat.beq k.no k1.no && deepK k1 then match s with
      | .v (.c (.own b)) => match look r.b b with
        | some (.deep k2 xs none) => bif Nat.beq k1.no k2.no then match absEls r k2 css with
          | some (ys, ns) => bif nodupB ns then some ⟨[roomy xs.length ys.length (bytesT k2)], .v (.c (.own b)), none, [(b, .deep k2 (xs ++ ys) none)], b :: ns, b :: q :: ns⟩ else none
          | none => none
          else none
        | _ => none
      | .v (.c (.val (.slice none 0 0))) => match absEls r k1 css, d with
        | some (ys, ns), some d => bif nodupB ns then some ⟨[roomy 0 ys.length (bytesT k1)], .v (.c (.own d)), some (.deep k1 ys none), [], ns, q :: ns⟩ else none
        | _, _ => none
      | _ => none
      else none
    | _ => none
  | _, _ => none
def evAppend (r : RS) (d : Option Nat) (t : TypeId) (s x : AV) : Option OR :=
  match sliceK t, s with
  | some k, .v (.c (.own b)) => match look r.b b with
    | some (.arr k' xs) => match elemsOf r k' x, Nat.beq k.no k'.no with
      | some (ys, rb), true => some ⟨[roomy xs.length ys.length (bytesT k')], .v (.c (.own b)), none, [(b, .arr k' (xs ++ ys))], [b], b :: rb⟩
      | _, _ => none
    | _ => none
  | some k, .v (.c (.val (.slice none 0 0))) => match elemsOf r k x, d with
    | some (ys, rb), some d => some ⟨[roomy 0 ys.length (bytesT k)], .v (.c (.own d)), some (.arr k ys), [], [], rb⟩
    | _, _ => none
  | _, _ => none
def evSlice (t : TypeId) (x : AV) (lo hi : Option AV) : Option OR :=
  match x, sliceK t with
  | .v (.c (.sl k xs)), some k' => bif Nat.beq k.no k'.no then match lo, hi with
    | none, some (.v (.c (.val (.int _ h)))) => some ⟨[decide (0 ≤ h), decide (h ≤ xs.length)], .v (.c (.sl k (xs.take h.toNat))), none, [], [], []⟩
    | _, _ => none
    else none
  | _, _ => none

/-! ### calls -/
/-- What a proved contract says of a call. -/
inductive SR where
  /-- a value; its slices share nothing with the arguments -/
  | fresh (v : AV)
  /-- a value; its slices may be the arguments' -/
  | lent (v : AV)
  /-- a new row -/
  | row (k : K) (xs : List (ty k))
  /-- the first argument, a row of the caller's own, is used up; a row comes back -/
  | grow (k : K) (xs : List (ty k))
/-- A summary: what must hold, and the result. -/
def Summary := List AV → Option (List Bool × SR)
def convC (r : RS) (t : TypeId) (c : C) : Option (C × List Nat) :=
  match c with
  | .own b => match look r.b b with
    | some (.arr k xs) => some (.sl k xs, [b])
    | some (.deep k xs none) => some (.sl k xs, [b])
    | _ => none
  | .val (.slice none 0 0) => match sliceK t with
    | some k => some (.sl k [], [])
    | none => none
  | .val v => some (.val v, [])
  | .sl k xs => some (.sl k xs, [])
  | .rel k x off => some (.rel k x off, [])
  | _ => none
/-- What a function value bears: a variable is read where it stands. -/
def capC (r : RS) : C → Option (C × List Nat)
  | .ptr b 0 => match look r.b b with
    | some (.box cs t) => match capK t with
      | some k => match ofCells k cs with
        | some x => some (.rel k x 0, [b])
        | none => none
      | none => none
    | _ => none
  | .val v => some (.val v, [])
  | .rel k x off => some (.rel k x off, [])
  | _ => none
where capK (t : TypeId) : Option K := bif Nat.beq t 38 then some .vert else bif Nat.beq t 3 then some .int else none
def capVs (r : RS) : List V1 → Option (List V1 × List Nat)
  | [] => some ([], [])
  | .c c :: l => match capC r c, capVs r l with
    | some (c', b), some (l', bs) => some (.c c' :: l', b ++ bs)
    | _, _ => none
  | _ :: _ => none
/-- A struct's cells: a slice's cell by its field's type; other cells as they are. -/
def convCs (r : RS) (fs : List (Nat × TypeId)) : Nat → List C → Option (List C × List Nat)
  | _, [] => some ([], [])
  | n, c :: l => match convC r (match fs.find? (fun p => Nat.beq p.1 n) with | some p => p.2 | none => 3) c, convCs r fs (n + 1) l with
    | some (c', b), some (l', bs) => some (c' :: l', b ++ bs)
    | _, _ => none
def convA (r : RS) (t : TypeId) : AV → Option (AV × List Nat)
  | .v (.c c) => match convC r t c with
    | some (c', b) => some (.v (.c c'), b)
    | none => none
  | .v (.agg cs) => match look TT t with
    | some ⟨.agg fs, _, _⟩ => match convCs r fs 0 cs with
      | some (cs', b) => some (.v (.agg cs'), b)
      | none => none
    | _ => none
  | .fn f l => match capVs r l with
    | some (l', b) => some (.fn f l', b)
    | none => none
  | _ => none
def convAs (r : RS) : List TypeId → List AV → Option (List AV × List Nat)
  | [], [] => some ([], [])
  | t :: ts, a :: l => match convA r t a, convAs r ts l with
    | some (a', b), some (l', bs) => some (a' :: l', b ++ bs)
    | _, _ => none
  | _, _ => none
def noSlC : C → Bool
  | .val _ => true
  | _ => false
def noSlV : V1 → Bool
  | .c x => noSlC x
  | .agg cs => cs.all noSlC
def noSl : AV → Bool
  | .v x => noSlV x
  | .tup l => l.all noSlV
  | .fn _ _ => false
def evCall (sig : List (Nat × Summary)) (r : RS) (d : Option Nat) (f : FuncId) (ts : List TypeId) (args : List AV) : Option OR :=
  match look sig f, convAs r ts args with
  | some sm, some (as, rb) => match sm as with
    | some (cs, .fresh v) => some ⟨cs, v, none, [], [], rb⟩
    | some (cs, .lent v) => bif isNil rb || noSl v then some ⟨cs, v, none, [], [], rb⟩ else none
    | some (cs, .row k xs) => match d with
      | some d => some ⟨cs, .v (.c (.own d)), some (.arr k xs), [], [], rb⟩
      | none => none
    | some (cs, .grow k xs) => match args, d with
      | .v (.c (.own b)) :: _, some _ => match look r.b b with
        | some (.arr k' _) => bif Nat.beq k.no k'.no then some ⟨cs, .v (.c (.own b)), none, [(b, .arr k xs)], [b], rb⟩ else none
        | _ => none
      | .v (.c (.val (.slice none 0 0))) :: _, some d => some ⟨cs, .v (.c (.own d)), some (.arr k xs), [], [], rb⟩
      | _, _ => none
    | none => none
  | _, _ => none

/-! ### maps keyed by vertices -/
/-- The first value under a key. -/
def S.kvLook {α : Type} (u : Vert) : List (Vert × α) → Option α
  | [] => none
  | p :: l => if u = p.1 then some p.2 else S.kvLook u l
/-- A key's value laid down. -/
def S.kvPut {α : Type} (u : Vert) (x : α) : List (Vert × α) → List (Vert × α)
  | [] => [(u, x)]
  | p :: l => if u = p.1 then (u, x) :: l else p :: S.kvPut u x l
def mapK (t : TypeId) : Option Bool := bif Nat.beq t 106 then some true else bif Nat.beq t 107 then some false else none
def evPutM (r : RS) (t : TypeId) (m k x : AV) : Option OR :=
  match m, k with
  | .v (.c (.mp b)), .v (.agg cs) => match vertOf cs, look r.b b, mapK t with
    | some u, some (.mpb kv), some true => match x with
      | .v (.c (.val (.bool y))) => some ⟨[], .v (.c .undef), none, [(b, .mpb (S.kvPut u y kv))], [], [b]⟩
      | _ => none
    | some u, some (.mpi kv), some false => match x with
      | .v (.c (.val (.int .i64 y))) => some ⟨[], .v (.c .undef), none, [(b, .mpi (S.kvPut u y kv))], [], [b]⟩
      | _ => none
    | _, _, _ => none
  | _, _ => none
def evLookM (r : RS) (t : TypeId) (m k : AV) (c : Bool) : Option OR :=
  match m, k with
  | .v (.c (.mp b)), .v (.agg cs) => match vertOf cs, look r.b b, mapK t with
    | some u, some (.mpb kv), some true => some ⟨[], bif c then .tup [.c (bo ((S.kvLook u kv).getD false)), .c (bo (S.kvLook u kv).isSome)] else .v (.c (bo ((S.kvLook u kv).getD false))), none, [], [], [b]⟩
    | some u, some (.mpi kv), some false => some ⟨[], bif c then .tup [.c (i64 ((S.kvLook u kv).getD 0)), .c (bo (S.kvLook u kv).isSome)] else .v (.c (i64 ((S.kvLook u kv).getD 0))), none, [], [], [b]⟩
    | _, _, _ => none
  | _, _ => none

/-! ### one operation -/
def evOp (sig : List (Nat × Summary)) (r : RS) (ch : List (Nat × Bool)) (o : Oper) : Option OR :=
  match o.op with
  | .move x | .assign x => match rho r ch x with
    | some v => some (rPure v)
    | none => none
  | .alloc t => match look TT t, o.dst with
    | some ty, some d => some ⟨[], .v (.c (.ptr d 0)), some (.box ty.zero t), [], [], []⟩
    | _, _ => none
  | .box t x => match rho r ch x, o.dst with
    | some (.v x), some d => bif fits t x then some ⟨[], .v (.c (.ptr d 0)), some (.box x.cs t), [], [], []⟩ else none
    | _, _ => none
  | .build t ps => evBuild r ch t ps.toList
  | .buildSlice t n ps => evBuildSlice r ch o.dst t n ps.toList
  | .load t p => match rho r ch p with
    | some p => match evTake r o.dst t p with
      | some z => some z
      | none => evLoad r t p
    | none => none
  | .store t p x => match rho r ch p, rho r ch x, o.dst with
    | some p, some x, none => match evFill r t p x with
      | some z => some z
      | none => evStore r t p x
    | _, _, _ => none
  | .makeMap t none => match mapK t, o.dst with
    | some true, some d => some ⟨[], .v (.c (.mp d)), some (.mpb []), [], [], []⟩
    | some false, some d => some ⟨[], .v (.c (.mp d)), some (.mpi []), [], [], []⟩
    | _, _ => none
  | .mapUpdate t m k x => match rho r ch m, rho r ch k, rho r ch x, o.dst with
    | some m, some k, some x, none => evPutM r t m k x
    | _, _, _, _ => none
  | .insert t m k x => match rho r ch m, rho r ch k, rho r ch x, o.dst with
    | some m, some k, some x, none => evPutM r t m k x
    | _, _, _, _ => none
  | .lookup t m k c => match rho r ch m, rho r ch k with
    | some m, some k => evLookM r t m k c
    | _, _ => none
  | .binOp op t x y _ => match rho r ch x, rho r ch y with
    | some x, some y => evBin op t x y
    | _, _ => none
  | .unOp .not _ x => match rho r ch x with
    | some (.v (.c (.val (.bool b)))) => some (rC (bo (!b)))
    | _ => none
  | .unOp .neg _ x => match rho r ch x with
    | some (.v (.c (.val (.int k n)))) => some (rC (.val (.int k (k.wrap (0 - n)))))
    | _ => none
  | .convert s t x => match rho r ch x, look TT s, look TT t with
    | some (.v (.c (.val (.int k n)))), some ⟨.int _, _, _⟩, some ⟨.int k', _, _⟩ => some (rC (.val (.int k' (k'.wrap n))))
    | _, _, _ => none
  | .makeFunc (.func f) fst caps => match rhos r ch caps.toList, fst.toList with
    | some vs, [] => match v1s vs with
      | some l => some (rPure (.fn f l))
      | none => none
    | _, _ => none
  | .makeSlice t n m => match rho r ch n, rho r ch m, sliceK t, o.dst with
    | some (.v (.c (.val (.int .i64 n)))), some (.v (.c (.val (.int .i64 m)))), some k, some d =>
      some ⟨[n == m, decide (0 ≤ n), roomy 0 n.toNat (bytesT k)], .v (.c (.own d)), some (.arr k (List.replicate n.toNat (zero k))), [], [], []⟩
    | _, _, _, _ => none
  | .slice t x lo hi none => match rho r ch x, lo, hi with
    | some x, none, some h => match rho r ch h with
      | some h => evSlice t x none (some h)
      | none => none
    | _, _, _ => none
  | .fieldAddr s x f => match rho r ch x with
    | some p => evField s p f
    | none => none
  | .indexAddr t x i => match rho r ch x, rho r ch i with
    | some x, some i => evIndex r t x i
    | _, _ => none
  | .extract x i => match rho r ch x with
    | some (.tup l) => match l[i]? with
      | some v => some (rPure (.v v))
      | none => none
    | _ => none
  | .call c => match c.callee, rhos r ch c.args.toList with
    | .builtin .len, some [x] => match lenOf r x, c.argTypes.toList with
      | some (n, rb), [t] => match sliceK t with
        | some _ => some ⟨[], .v (.c (i64 (n : Int))), none, [], [], rb⟩
        | none => none
      | _, _ => none
    | .builtin .append, some [s, x] => match c.argTypes.toList with
      | [t, t'] => bif Nat.beq t t' then match evAppendD r o.dst t s x with
        | some z => some z
        | none => evAppend r o.dst t s x
        else none
      | _ => none
    | .builtin .min, some [.v (.c (.val (.int .i64 x))), .v (.c (.val (.int .i64 y)))] => some (rC (i64 (if y < x then y else x)))
    | .builtin .max, some [.v (.c (.val (.int .i64 x))), .v (.c (.val (.int .i64 y)))] => some (rC (i64 (if y > x then y else x)))
    | .value (.func f), some as => evCall sig r o.dst f c.argTypes.toList as
    | .value (.tmp t), some as => match rho r ch (.tmp t) with
      | some (.fn f l) => evCall sig r o.dst f (c.argTypes.toList ++ l.map (fun _ => 3)) (as ++ l.map AV.v)
      | _ => none
    | _, _ => none
  | _ => none

/-- 'pick': the one whose guard is the test's own truth is taken under it. -/
def pickable (ops : Array Oper) (ch : List (Nat × Bool)) (c : Operand) (w : Bool) : Tag → Bool
  | none => true
  | some (j, w') => tagIn ch (some (j, w')) || ((bif w then w' else !w') && match c, dstOf ops j with
    | .tmp t, some d => Nat.beq t d
    | _, _ => false)
def evPick (ops : Array Oper) (r : RS) (ch : List (Nat × Bool)) (c x y : Operand) : Option OR :=
  match rho r ch c, opd r x, opd r y with
  | some (.v (.c (.val (.bool g)))), some (tx, .v (.c (.val vx))), some (ty, .v (.c (.val vy))) =>
    bif pickable ops ch c true tx && pickable ops ch c false ty then
      match x, y, vx, vy with
      | _, .const (.bool false), .bool a, _ => some (rC (bo (g && a)))
      | .const (.bool true), _, _, .bool b => some (rC (bo (g || b)))
      | _, _, .bool a, .bool b => some (rC (bo (bif g then a else b)))
      | _, _, .int k a, .int k' b => bif decide (k = k') then some (rC (.val (.int k (bif g then a else b)))) else none
      | _, _, _, _ => none
    else none
  | _, _, _ => none

def isEff (x : OR) : Bool := (match x.nb with | some _ => true | none => false) || !(isNil x.wb) || !(isNil x.kl)
def putBs (l : List (Nat × Blk)) : List (Nat × Blk) → List (Nat × Blk)
  | [] => l
  | p :: m => putBs (put l p.1 p.2) m
/-- The state behind an operation. -/
def after (r : RS) (tag : Tag) (d : Option Nat) (x : OR) : RS :=
  let r1 := killL x.kl r
  let b1 := putBs r1.b x.wb
  match d with
  | some d => ⟨put r1.s d (tag, x.v), match x.nb with | some k => put b1 d k | none => b1⟩
  | none => ⟨r1.s, b1⟩
/-- May the slot be written, and the new block made? -/
def mayPut (N : Nat) (r : RS) (x : OR) : Option Nat → Bool
  | none => match x.nb with | some _ => false | none => true
  | some d => Nat.blt d N && (match x.nb with | some _ => (match look r.b d with | some _ => false | none => true) | none => true)
def notOwn (ops : Array Oper) (j : Nat) (d : Option Nat) : Bool := match dstOf ops j, d with
  | some e, some d => !(Nat.beq e d)
  | _, _ => true
def evAny (sig : List (Nat × Summary)) (ops : Array Oper) (r : RS) (ch : List (Nat × Bool)) (o : Oper) : Option OR :=
  match o.op with
  | .pick c x y => evPick ops r ch c x y
  | _ => evOp sig r ch o
def evStep (sig : List (Nat × Summary)) (N : Nat) (ops : Array Oper) (r : RS) (o : Oper) : Option (List Bool × RS × OR) :=
  match o.guard with
  | none => match evAny sig ops r [] o with
    | some x => bif mayPut N r x o.dst then some (x.cs, after r none o.dst x, x) else none
    | none => none
  | some g => match evAny sig ops r (chainOf ops r 8 g) o, gexp ops r 8 g with
    | some x, some e => bif mayPut N r x o.dst && !(isEff x) && notOwn ops g.1 o.dst then some (x.cs.map (fun c => !e || c), after r (some g) o.dst x, x) else none
    | _, _ => none
def evIdx (sig : List (Nat × Summary)) (N : Nat) (ops : Array Oper) : List Nat → RS → Option (List Bool × RS)
  | [], r => some ([], r)
  | i :: l, r => match ops[i]? with
    | none => none
    | some o => match evStep sig N ops r o with
      | some (cs, r1, _) => match evIdx sig N ops l r1 with
        | some (ds, r2) => some (cs ++ ds, r2)
        | none => none
      | none => none
/-- No other operation writes the slot of one that is a guard; a guard stands ahead of what it guards. -/
def guardOk (ops : Array Oper) (k : Nat) : Bool :=
  match (ops[k]?).bind (·.guard) with
  | none => true
  | some g => Nat.blt g.1 k && (List.range ops.size).all fun i => Nat.beq i g.1 || !(match dstOf ops i, dstOf ops g.1 with | some d, some e => Nat.beq d e | _, _ => false)
def guardsOk (ops : Array Oper) : Bool := (List.range ops.size).all (guardOk ops)

/-! ### regions that draw their order -/
def chainSlots (ops : Array Oper) (r : RS) : Nat → Nat × Bool → List Nat
  | 0, p => (dstOf ops p.1).toList
  | n + 1, p => (dstOf ops p.1).toList ++ match (dstOf ops p.1).bind (look r.s ·) with
    | some (some t, _) => chainSlots ops r n t
    | _ => []
def tmpsOf (l : List Operand) : List Nat := l.filterMap fun | .tmp t => some t | _ => none
/-- What an operation reads and writes: slots, blocks. -/
structure FP where
  rs : List Nat
  rb : List Nat
  ws : List Nat
  wb : List Nat
def opOps : Op → List Operand
  | .move x | .assign x | .box _ x | .load _ x | .unOp _ _ x | .convert _ _ x | .fieldAddr _ x _ | .extract x _ => [x]
  | .pick c x y => [c, x, y]
  | .build _ ps | .buildSlice _ _ ps => ps.toList.map (·.2)
  | .store _ x y | .binOp _ _ x y _ | .makeSlice _ x y | .indexAddr _ x y | .lookup _ x y _ => [x, y]
  | .mapUpdate _ x y z | .insert _ x y z => [x, y, z]
  | .makeFunc _ _ caps => caps.toList
  | .slice _ x lo hi mx => x :: (lo.toList ++ hi.toList)
  | .call c => match c.callee with
    | .value f => f :: c.args.toList
    | _ => c.args.toList
  | _ => []
def fpOf (ops : Array Oper) (r : RS) (o : Oper) (x : OR) : FP :=
  ⟨tmpsOf (opOps o.op) ++ (match o.guard with | some g => chainSlots ops r 8 g | none => []), x.rb ++ (match x.nb with | some _ => o.dst.toList | none => []), o.dst.toList, (match x.nb with | some _ => o.dst.toList | none => []) ++ x.wb.map (·.1)⟩
def meet (l m : List Nat) : Bool := l.any fun n => nmem n m
def conf (a b : FP) : Bool := meet a.ws (b.rs ++ b.ws) || meet b.ws a.rs || meet a.wb (b.rb ++ b.wb) || meet b.wb a.rb
structure Item where
  i : Nat
  t : Tag
  d : Option Nat
  x : OR
  f : FP
/-- The first operations, in their text's order, with what each reads and writes. -/
def evItems (sig : List (Nat × Summary)) (N : Nat) (ops : Array Oper) : List Nat → RS → Option (List Bool × RS × List Item)
  | [], r => some ([], r, [])
  | i :: l, r => match ops[i]? with
    | none => none
    | some o => match evStep sig N ops r o with
      | some (cs, r1, x) => match x.kl, evItems sig N ops l r1 with
        | [], some (ds, r2, m) => some (cs ++ ds, r2, ⟨i, o.guard, o.dst, x, fpOf ops r o x⟩ :: m)
        | _, _ => none
      | none => none
def depsOf (o : Oper) : List Nat := (o.after.toList.filter fun e => Region.binds .any e).map (·.on)
def orBits (ms : List Nat) (l : List Nat) : Nat := l.foldl (fun s e => s ||| 2 ^ e ||| ms.getD e 0) 0
/-- For each operation the bits of those that must come ahead of it. -/
def ancs (ops : List Oper) : List Nat := ops.foldl (fun ms o => ms ++ [orBits ms (depsOf o)]) []
def depsBelow (ops : Array Oper) (i : Nat) : Bool := match ops[i]? with
  | some o => (depsOf o).all (fun e => Nat.blt e i) && (match o.guard with | some g => nmem g.1 (depsOf o) | none => true)
  | none => true
def allSet (b : Nat) : Nat → Bool
  | 0 => true
  | n + 1 => b.testBit n && allSet b n
/-- From which operation on all come in one order, each behind all ahead of it. -/
def splitAt (ms : List Nat) : Nat → Nat
  | 0 => 0
  | n + 1 => bif allSet (ms.getD n 0) n then splitAt ms n else n + 1
def pairOk (ms : List Nat) : List Item → Bool
  | [] => true
  | a :: l => l.all (fun b => (ms.getD b.i 0).testBit a.i || !(conf a.f b.f)) && pairOk ms l
def evDraw (sig : List (Nat × Summary)) (N : Nat) (ops : Array Oper) (r : RS) : Option (List Bool × RS) :=
  let ms := ancs ops.toList
  let m := splitAt ms ops.size
  bif (List.range ops.size).all (depsBelow ops) then match evItems sig N ops (List.range m) r with
    | some (cs, r1, its) => bif pairOk ms its then match evIdx sig N ops ((List.range ops.size).drop m) r1 with
      | some (ds, r2) => some (cs ++ ds, r2)
      | none => none
      else none
    | none => none
    else none

/-! ### regions -/
def makesBlock : Op → Bool
  | .alloc _ | .box _ _ | .buildSlice .. | .makeSlice .. | .makeMap .. | .call _ => true
  | .load t _ => match sliceK t with | some _ => true | none => false
  | _ => false
def sites (ops : Array Oper) : List Nat := ops.toList.filterMap fun o => bif makesBlock o.op then o.dst else none
def killAll : List Nat → RS → RS
  | [], r => r
  | b :: l, r => killAll l (match look r.b b with | some _ => killRS b r | none => r)
def toRS (st : St) : RS := ⟨st.s.map (fun p => (p.1, (none, p.2))), st.b⟩
def keepS (r : RS) : List Nat → Option (List (Nat × AV))
  | [] => some []
  | i :: l => match look r.s i, keepS r l with
    | some (none, v), some m => some ((i, v) :: m)
    | none, some m => some m
    | _, _ => none
/-- The blocks of some names, by rising name. -/
def keepB (N : Nat) (l : List (Nat × Blk)) (ns : List Nat) : List (Nat × Blk) := (List.range N).filterMap fun n => bif nmem n ns then (look l n).map fun b => (n, b) else none
def fin (N : Nat) (live : List Nat) (r : RS) : Option St :=
  match keepS r live with
  | some s =>
    let a := s.flatMap (fun p => refAV p.2)
    let c := (keepB N r.b a).flatMap (fun p => refBlk p.2)
    let bs := keepB N r.b (a ++ c)
    bif r.b.all (fun p => Nat.blt p.1 N) && bs.all (fun p => (refBlk p.2).all fun n => nmem n (a ++ c)) then some ⟨s, bs⟩ else none
  | none => none
/-- A region: from a state to a state, of which the slots of a list are kept. -/
def evRegion (sig : List (Nat × Summary)) (N : Nat) (ops : Array Oper) (draw : Bool) (live : List Nat) (st : St) : Option (List Bool × St) :=
  let r := killAll (sites ops) (toRS st)
  bif guardsOk ops then match (bif draw then evDraw sig N ops r else evIdx sig N ops (List.range ops.size) r) with
    | some (cs, r1) => match fin N live r1 with
      | some st1 => some (cs, st1)
      | none => none
    | none => none
    else none
/-! ### code -/
def AllT : List Bool → Prop → Prop
  | [], p => p
  | b :: l, p => b = true ∧ AllT l p
def thenQ (k : St → Prop) (Q : Exit → St → Prop) : Exit → St → Prop
  | .normal, st => k st
  | e, st => Q e st
def blockQ (id : Nat) (Q : Exit → St → Prop) : Exit → St → Prop
  | .exit id', st => bif Nat.beq id' id then Q .normal st else Q (.exit id') st
  | e, st => Q e st
def condOf (st : St) : Operand → Option Bool
  | .tmp t => match look st.s t with
    | some (.v (.c (.val (.bool b)))) => some b
    | _ => none
  | .const (.bool b) => some b
  | _ => none
end Go.Proofs.Ytoknhjmcoleejaa
