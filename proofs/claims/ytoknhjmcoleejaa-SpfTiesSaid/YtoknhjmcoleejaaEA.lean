/- The plain data of the program (vertices, edges, links, advertisements, maps, trees, routes) and how each lies in memory as a row of cells. No condition. -/
import Derived.Calls
import Derived.Orders
import Derived.Below
import Derived.KernelRfl
set_option linter.unusedVariables false
set_option linter.unusedSimpArgs false
namespace Go.Proofs.Ytoknhjmcoleejaa

structure Vert where
  kind : Int
  id : Int
structure Edge where
  src : Vert
  dst : Vert
  cost : Int
  data : Int
structure Stub where
  router : Int
  pfx : Int
  bits : Int
  cost : Int
structure Span where
  vert : Vert
  pfx : Int
  bits : Int
structure Link where
  kind : Int
  id : Int
  data : Int
  cost : Int
structure Head where
  age : Int
  kind : Int
  id : Int
  adv : Int
  seq : Int
  sum : Int
  len : Int
structure Lsa where
  head : Head
  flags : Int
  links : List Link
  bits : Int
  routers : List Int
  verts : List Vert
structure Node where
  vert : Vert
  parent : Int
  cost : Int
  data : Int
structure Route where
  pfx : Int
  bits : Int
  cost : Int
  own : Int
  next : Int
structure Outp where
  addr : Int
  need : Int
structure Near where
  id : Int
  addr : Int
  prio : Int
  dr : Int
  bdr : Int
  two : Bool
  left : Int
structure Face where
  kind : Int
  addr : Int
  bits : Int
  cost : Int
  prio : Int
  state : Int
  wait : Int
  dr : Int
  bdr : Int
structure Port where
  face : Face
  full : List Near
  groups : List Int
structure TMap where
  verts : List Vert
  edges : List Edge
  stubs : List Stub
  spans : List Span
  wilds : List Int
structure Entry where
  pfx : Int
  bits : Int
  group : Int
  up : Int
  outs : List Outp

instance : DecidableEq Vert := fun a b => decidable_of_iff (a.kind = b.kind ∧ a.id = b.id) (by cases a; cases b; simp)
instance : DecidableEq Edge := fun a b => decidable_of_iff (a.src = b.src ∧ a.dst = b.dst ∧ a.cost = b.cost ∧ a.data = b.data) (by cases a; cases b; simp)
instance : DecidableEq Stub := fun a b => decidable_of_iff (a.router = b.router ∧ a.pfx = b.pfx ∧ a.bits = b.bits ∧ a.cost = b.cost) (by cases a; cases b; simp)
instance : DecidableEq Span := fun a b => decidable_of_iff (a.vert = b.vert ∧ a.pfx = b.pfx ∧ a.bits = b.bits) (by cases a; cases b; simp)
instance : DecidableEq Link := fun a b => decidable_of_iff (a.kind = b.kind ∧ a.id = b.id ∧ a.data = b.data ∧ a.cost = b.cost) (by cases a; cases b; simp)
instance : DecidableEq Node := fun a b => decidable_of_iff (a.vert = b.vert ∧ a.parent = b.parent ∧ a.cost = b.cost ∧ a.data = b.data) (by cases a; cases b; simp)
instance : DecidableEq Route := fun a b => decidable_of_iff (a.pfx = b.pfx ∧ a.bits = b.bits ∧ a.cost = b.cost ∧ a.own = b.own ∧ a.next = b.next) (by cases a; cases b; simp)
instance : DecidableEq Outp := fun a b => decidable_of_iff (a.addr = b.addr ∧ a.need = b.need) (by cases a; cases b; simp)

/-- The kinds of elements that slices of the program have. -/
inductive K where
  | u8 | bl | u32 | int | vert | edge | stub | span | link | lsa | node | route | outp | near | port

/-- A kind's own number, for comparing. -/
def K.no : K → Nat
  | .u8 => 0 | .bl => 1 | .u32 => 2 | .int => 3 | .vert => 4 | .edge => 5 | .stub => 6 | .span => 7 | .link => 8 | .lsa => 9 | .node => 10 | .route => 11 | .outp => 12 | .near => 13 | .port => 14

abbrev ty : K → Type
  | .u8 => UInt8 | .bl => Bool | .u32 => UInt32 | .int => Int | .vert => Vert | .edge => Edge | .stub => Stub | .span => Span | .link => Link | .lsa => Lsa
  | .node => Node | .route => Route | .outp => Outp | .near => Near | .port => Port

/-- One cell of memory, as the evaluator sees it. -/
inductive C where
  | undef
  | val (v : Value)
  | ptr (b off : Nat)
  | elt (k : K) (b : Nat) (i : Int) (off : Nat)
  | rel (k : K) (x : ty k) (off : Nat)
  | sl (k : K) (xs : List (ty k))
  | own (b : Nat)
  | mp (b : Nat)

/-- A value without functions: a cell, or a struct by value. -/
inductive V1 where
  | c (x : C)
  | agg (cs : List C)

inductive AV where
  | v (x : V1)
  | tup (l : List V1)
  | fn (f : FuncId) (caps : List V1)

/-- What a block of the call's own holds: one variable, a row, a map of vertices. -/
inductive Blk where
  | box (cs : List C) (t : TypeId)
  | arr (k : K) (xs : List (ty k))
  | mpb (kv : List (Vert × Bool))
  | mpi (kv : List (Vert × Int))
  /-- A short row just written out, each element by its cells. -/
  | lit (k : K) (css : List (List C))
  /-- A row whose elements' own rows are one's own too; a hole: the one row that has been taken out. -/
  | deep (k : K) (xs : List (ty k)) (hole : Option (Int × Nat))

def i64 (n : Int) : C := .val (.int .i64 n)
def bo (b : Bool) : C := .val (.bool b)
def nilsl : C := .val (.slice none 0 0)

def Vert.cells (x : Vert) : List C := [i64 x.kind, i64 x.id]
def Head.cells (x : Head) : List C := [i64 x.age, i64 x.kind, i64 x.id, i64 x.adv, i64 x.seq, i64 x.sum, i64 x.len]
def Face.cells (x : Face) : List C := [i64 x.kind, i64 x.addr, i64 x.bits, i64 x.cost, i64 x.prio, i64 x.state, i64 x.wait, i64 x.dr, i64 x.bdr]
def TMap.cells (x : TMap) : List C := [.sl .vert x.verts, .sl .edge x.edges, .sl .stub x.stubs, .sl .span x.spans, .sl .int x.wilds]
def Entry.cells (x : Entry) : List C := [i64 x.pfx, i64 x.bits, i64 x.group, i64 x.up, .sl .outp x.outs]
def Lsa.cells (x : Lsa) : List C :=
  [i64 x.head.age, i64 x.head.kind, i64 x.head.id, i64 x.head.adv, i64 x.head.seq, i64 x.head.sum, i64 x.head.len, i64 x.flags, .sl .link x.links, i64 x.bits, .sl .int x.routers, .sl .vert x.verts]

def cells : (k : K) → ty k → List C
  | .u8, (x : UInt8) => [.val (.int .u8 (x.toNat : Int))]
  | .bl, (x : Bool) => [bo x]
  | .u32, (x : UInt32) => [.val (.int .u32 (x.toNat : Int))]
  | .int, (x : Int) => [i64 x]
  | .vert, (x : Vert) => [i64 x.kind, i64 x.id]
  | .edge, (x : Edge) => [i64 x.src.kind, i64 x.src.id, i64 x.dst.kind, i64 x.dst.id, i64 x.cost, i64 x.data]
  | .stub, (x : Stub) => [i64 x.router, i64 x.pfx, i64 x.bits, i64 x.cost]
  | .span, (x : Span) => [i64 x.vert.kind, i64 x.vert.id, i64 x.pfx, i64 x.bits]
  | .link, (x : Link) => [i64 x.kind, i64 x.id, i64 x.data, i64 x.cost]
  | .lsa, (x : Lsa) => x.cells
  | .node, (x : Node) => [i64 x.vert.kind, i64 x.vert.id, i64 x.parent, i64 x.cost, i64 x.data]
  | .route, (x : Route) => [i64 x.pfx, i64 x.bits, i64 x.cost, i64 x.own, i64 x.next]
  | .outp, (x : Outp) => [i64 x.addr, i64 x.need]
  | .near, (x : Near) => [i64 x.id, i64 x.addr, i64 x.prio, i64 x.dr, i64 x.bdr, bo x.two, i64 x.left]
  | .port, (x : Port) => x.face.cells ++ [.sl .near x.full, .sl .int x.groups]

def width : K → Nat
  | .u8 => 1 | .bl => 1 | .u32 => 1 | .int => 1 | .vert => 2 | .edge => 6 | .stub => 4 | .span => 4 | .link => 4 | .lsa => 12 | .node => 5 | .route => 5 | .outp => 2 | .near => 7 | .port => 11

theorem cells_length (k : K) (x : ty k) : (cells k x).length = width k := by cases k <;> rfl
theorem width_pos (k : K) : 0 < width k := by cases k <;> decide

/-- The element's type in the program's table. -/
def elemT : K → TypeId
  | .u8 => 5 | .bl => 4 | .u32 => 69 | .int => 3 | .vert => 38 | .edge => 42 | .stub => 67 | .span => 65 | .link => 50 | .lsa => 48 | .node => 40 | .route => 80 | .outp => 97 | .near => 141 | .port => 136

/-- Bytes of an element. -/
def bytesT : K → Nat
  | .u8 => 1 | .bl => 1 | .u32 => 4 | .int => 8 | .vert => 16 | .edge => 48 | .stub => 32 | .span => 32 | .link => 32 | .lsa => 144 | .node => 40 | .route => 40 | .outp => 16 | .near => 56 | .port => 120

def zero : (k : K) → ty k
  | .u8 => (0 : UInt8) | .bl => false | .u32 => (0 : UInt32) | .int => (0 : Int) | .vert => (⟨0, 0⟩ : Vert) | .edge => (⟨⟨0, 0⟩, ⟨0, 0⟩, 0, 0⟩ : Edge) | .stub => (⟨0, 0, 0, 0⟩ : Stub)
  | .span => (⟨⟨0, 0⟩, 0, 0⟩ : Span) | .link => (⟨0, 0, 0, 0⟩ : Link) | .lsa => (⟨⟨0, 0, 0, 0, 0, 0, 0⟩, 0, [], 0, [], []⟩ : Lsa) | .node => (⟨⟨0, 0⟩, 0, 0, 0⟩ : Node)
  | .route => (⟨0, 0, 0, 0, 0⟩ : Route) | .outp => (⟨0, 0⟩ : Outp) | .near => (⟨0, 0, 0, 0, 0, false, 0⟩ : Near) | .port => (⟨⟨0, 0, 0, 0, 0, 0, 0, 0, 0⟩, [], []⟩ : Port)

/-- The list of a slice's cell, of a kind: nil is the empty one. -/
def slOf : (k : K) → C → Option (List (ty k))
  | .link, .sl .link xs => some xs
  | .int, .sl .int xs => some xs
  | .vert, .sl .vert xs => some xs
  | .near, .sl .near xs => some xs
  | _, .val (.slice none 0 0) => some []
  | _, _ => none

def intOf : C → Option Int
  | .val (.int .i64 n) => some n
  | _ => none
def boolOf : C → Option Bool
  | .val (.bool b) => some b
  | _ => none

/-- Cells taken off one after another. -/
def popI {α : Type} : List C → (Int → List C → Option α) → Option α
  | c :: l, k => match intOf c with | some n => k n l | none => none
  | [], _ => none
def popB {α : Type} : List C → (Bool → List C → Option α) → Option α
  | c :: l, k => match boolOf c with | some n => k n l | none => none
  | [], _ => none
def popS {α : Type} (kk : K) : List C → (List (ty kk) → List C → Option α) → Option α
  | c :: l, k => match slOf kk c with | some n => k n l | none => none
  | [], _ => none
def fin0 {α : Type} : List C → α → Option α
  | [], a => some a
  | _ :: _, _ => none
def vertOf (cs : List C) : Option Vert := popI cs fun a l => popI l fun b l => fin0 l (⟨a, b⟩ : Vert)
def edgeOf (cs : List C) : Option Edge := popI cs fun a l => popI l fun b l => popI l fun c l => popI l fun d l => popI l fun e l => popI l fun f l => fin0 l (⟨⟨a, b⟩, ⟨c, d⟩, e, f⟩ : Edge)
def stubOf (cs : List C) : Option Stub := popI cs fun a l => popI l fun b l => popI l fun c l => popI l fun d l => fin0 l (⟨a, b, c, d⟩ : Stub)
def spanOf (cs : List C) : Option Span := popI cs fun a l => popI l fun b l => popI l fun c l => popI l fun d l => fin0 l (⟨⟨a, b⟩, c, d⟩ : Span)
def linkOf (cs : List C) : Option Link := popI cs fun a l => popI l fun b l => popI l fun c l => popI l fun d l => fin0 l (⟨a, b, c, d⟩ : Link)
def nodeOf (cs : List C) : Option Node := popI cs fun a l => popI l fun b l => popI l fun c l => popI l fun d l => popI l fun e l => fin0 l (⟨⟨a, b⟩, c, d, e⟩ : Node)
def routeOf (cs : List C) : Option Route := popI cs fun a l => popI l fun b l => popI l fun c l => popI l fun d l => popI l fun e l => fin0 l (⟨a, b, c, d, e⟩ : Route)
def outpOf (cs : List C) : Option Outp := popI cs fun a l => popI l fun b l => fin0 l (⟨a, b⟩ : Outp)
def lsaOf (cs : List C) : Option Lsa := popI cs fun h1 l => popI l fun h2 l => popI l fun h3 l => popI l fun h4 l => popI l fun h5 l => popI l fun h6 l => popI l fun h7 l => popI l fun fl l => popS .link l fun ls l => popI l fun bi l => popS .int l fun rs l => popS .vert l fun vs l => fin0 l (⟨⟨h1, h2, h3, h4, h5, h6, h7⟩, fl, ls, bi, rs, vs⟩ : Lsa)
def nearOf (cs : List C) : Option Near := popI cs fun a l => popI l fun b l => popI l fun c l => popI l fun d l => popI l fun e l => popB l fun f l => popI l fun g l => fin0 l (⟨a, b, c, d, e, f, g⟩ : Near)
def portOf (cs : List C) : Option Port := popI cs fun a l => popI l fun b l => popI l fun c l => popI l fun d l => popI l fun e l => popI l fun f l => popI l fun g l => popI l fun h l => popI l fun i l => popS .near l fun fu l => popS .int l fun gr l => fin0 l (⟨⟨a, b, c, d, e, f, g, h, i⟩, fu, gr⟩ : Port)
/-- An element out of its cells (of the kinds that the program builds). -/
def ofCells : (k : K) → List C → Option (ty k)
  | .bl, cs => popB cs fun a l => fin0 l (a : Bool)
  | .int, cs => popI cs fun a l => fin0 l (a : Int)
  | .vert, cs => vertOf cs
  | .edge, cs => edgeOf cs
  | .stub, cs => stubOf cs
  | .span, cs => spanOf cs
  | .link, cs => linkOf cs
  | .node, cs => nodeOf cs
  | .route, cs => routeOf cs
  | .outp, cs => outpOf cs
  | .lsa, cs => lsaOf cs
  | .near, cs => nearOf cs
  | .port, cs => portOf cs
  | .u8, _ => none
  | .u32, _ => none

/-- A type of the program, as far as the evaluator asks. -/
inductive Sh where
  | int (k : IntKind)
  | bool
  | agg (fs : List (Nat × TypeId))
  | slice (k : K)
  | other
structure Ty where
  sh : Sh
  size : Nat
  zero : List C

def zi (n : Nat) : List C := List.replicate n (i64 0)
def TT : List (Nat × Ty) :=
  [(3, ⟨.int .i64, 1, [i64 0]⟩), (4, ⟨.bool, 1, [bo false]⟩), (5, ⟨.int .u8, 1, [.val (.int .u8 0)]⟩), (69, ⟨.int .u32, 1, [.val (.int .u32 0)]⟩), (86, ⟨.int .u64, 1, [.val (.int .u64 0)]⟩), (90, ⟨.int .i64, 1, [i64 0]⟩),
   (22, ⟨.slice .u8, 1, [nilsl]⟩), (23, ⟨.slice .bl, 1, [nilsl]⟩), (24, ⟨.slice .vert, 1, [nilsl]⟩), (25, ⟨.slice .edge, 1, [nilsl]⟩), (26, ⟨.slice .stub, 1, [nilsl]⟩), (27, ⟨.slice .span, 1, [nilsl]⟩), (28, ⟨.slice .int, 1, [nilsl]⟩),
   (32, ⟨.slice .lsa, 1, [nilsl]⟩), (35, ⟨.slice .node, 1, [nilsl]⟩), (46, ⟨.slice .link, 1, [nilsl]⟩), (70, ⟨.slice .u32, 1, [nilsl]⟩), (76, ⟨.slice .route, 1, [nilsl]⟩), (87, ⟨.slice .outp, 1, [nilsl]⟩), (93, ⟨.slice .port, 1, [nilsl]⟩), (134, ⟨.slice .near, 1, [nilsl]⟩),
   (30, ⟨.agg [(0, 24), (1, 25), (2, 26), (3, 27), (4, 28)], 5, [nilsl, nilsl, nilsl, nilsl, nilsl]⟩),
   (38, ⟨.agg [(0, 3), (1, 3)], 2, zi 2⟩), (40, ⟨.agg [(0, 38), (2, 3), (3, 3), (4, 3)], 5, zi 5⟩), (42, ⟨.agg [(0, 38), (2, 38), (4, 3), (5, 3)], 6, zi 6⟩),
   (45, ⟨.agg [(0, 3), (1, 3), (2, 3), (3, 3), (4, 3), (5, 3), (6, 3)], 7, zi 7⟩),
   (48, ⟨.agg [(0, 45), (7, 3), (8, 46), (9, 3), (10, 28), (11, 24)], 12, [i64 0, i64 0, i64 0, i64 0, i64 0, i64 0, i64 0, i64 0, nilsl, i64 0, nilsl, nilsl]⟩),
   (50, ⟨.agg [(0, 3), (1, 3), (2, 3), (3, 3)], 4, zi 4⟩), (65, ⟨.agg [(0, 38), (2, 3), (3, 3)], 4, zi 4⟩), (67, ⟨.agg [(0, 3), (1, 3), (2, 3), (3, 3)], 4, zi 4⟩),
   (80, ⟨.agg [(0, 3), (1, 3), (2, 3), (3, 3), (4, 3)], 5, zi 5⟩), (89, ⟨.agg [(0, 3), (1, 3), (2, 3), (3, 3), (4, 87)], 5, [i64 0, i64 0, i64 0, i64 0, nilsl]⟩),
   (97, ⟨.agg [(0, 3), (1, 3)], 2, zi 2⟩), (112, ⟨.agg [(0, 3), (1, 3), (2, 3)], 3, zi 3⟩),
   (133, ⟨.agg [(0, 3), (1, 3), (2, 3), (3, 3), (4, 3), (5, 3), (6, 3), (7, 3), (8, 3)], 9, zi 9⟩),
   (136, ⟨.agg [(0, 133), (9, 134), (10, 28)], 11, [i64 0, i64 0, i64 0, i64 0, i64 0, i64 0, i64 0, i64 0, i64 0, nilsl, nilsl]⟩),
   (141, ⟨.agg [(0, 3), (1, 3), (2, 3), (3, 3), (4, 3), (5, 4), (6, 3)], 7, [i64 0, i64 0, i64 0, i64 0, i64 0, bo false, i64 0]⟩)]

end Go.Proofs.Ytoknhjmcoleejaa
