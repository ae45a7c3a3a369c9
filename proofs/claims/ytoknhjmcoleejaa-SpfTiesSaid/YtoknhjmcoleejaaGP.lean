/- The document's tree: a round. No condition. -/
import Derived.Test.YtoknhjmcoleejaaFC
import Derived.Test.YtoknhjmcoleejaaGO
set_option linter.unusedVariables false
set_option linter.unusedSimpArgs false
set_option maxHeartbeats 4000000
namespace Go.Proofs.Ytoknhjmcoleejaa
open Go.RowKit
def lv89 : List (Nat × List Nat) := [(0, [2, 3]), (1, [2, 3, 9]), (2, [4]), (3, [4])]
def lv59 : List (Nat × List Nat) := [(0, [0, 4, 5]), (1, [0, 4, 5, 11]), (2, [6]), (3, [0, 4, 5, 21]), (4, [6]), (5, [0, 4, 5, 31]), (6, [6]), (7, [6])]
def lv25 : List (Nat × List Nat) := [(0, [2, 3]), (1, [2, 3, 5]), (2, [2, 3, 5, 6]), (3, [2, 3, 5, 6, 17]), (4, [2, 3, 5, 6]), (5, [2, 3, 5, 6]), (6, [2, 3, 31]), (7, [4]), (8, [2, 7]), (9, [2, 7, 40]), (10, [2, 7, 8]), (11, [2, 7, 8, 9]), (12, [2, 7, 8, 9, 46]), (13, [2, 7, 8, 9]), (14, [2, 7, 8, 9, 10]), (15, [2, 7, 8, 9, 10, 11]), (16, [2, 7, 8, 9, 10, 11, 66]), (17, [2, 7, 8, 9, 12]), (18, [2, 7, 8, 9, 12, 89]), (19, [2, 7, 8, 9]), (20, [2, 7, 8, 93]), (21, [2, 7]), (22, [4]), (1000000, [2, 3, 5]), (1000001, [2, 3, 5, 6]), (1000002, [7]), (1000003, [2, 7]), (1000004, [2, 7, 8]), (1000005, [2, 7, 8, 9])]
def S.first (a b : Vert) : Bool := if a.kind != b.kind then a.kind == 2 else decide (a.id < b.id)
def sm89 : Summary := mkSm [.vert, .vert] (fun _ => []) fun ((a : Vert), (b : Vert), _) => .fresh (.v (.c (bo (S.first a b))))
theorem ok89 : SumOK Try.prog 89 sm89 := by
  refine sum_ev Try.f89 (lv := lv89) (lcs := []) (sig := []) (by kernel_rfl) ⟨by kernel_rfl, by kernel_rfl, by kernel_rfl⟩ sig_nil (no_loops (by kernel_rfl)) ?_
  rintro ⟨(a : Vert), (b : Vert), _⟩ hpre
  suffices hnf : ((a.kind != b.kind) = true → some (AV.v (V1.c (C.val (Value.bool (a.kind == (2 : Int)))))) = some (AV.v (V1.c (C.val (Value.bool (S.first a b)))))) ∧ ((a.kind != b.kind) = false → some (AV.v (V1.c (C.val (Value.bool (decide (a.id < b.id)))))) = some (AV.v (V1.c (C.val (Value.bool (S.first a b)))))) by (apply nfto hnf; kernel_rfl)
  refine ⟨fun h => ?_, fun h => ?_⟩
  · rw [S.first, if_pos h]
  · rw [S.first, if_neg (by rw [h]; decide)]
def S.sooner (t : List Node) (a b : Node) : Bool :=
  if a.cost != b.cost then decide (a.cost < b.cost) else if !(S.veq a.vert b.vert) then S.first a.vert b.vert
  else if a.parent != b.parent then S.first (t.getD a.parent.toNat (zero .node)).vert (t.getD b.parent.toNat (zero .node)).vert else false
def sg59 : List (Nat × Summary) := [(89, sm89)]
def sm59 : Summary := mkSm [.sl .node, .node, .node] (fun ((t : List Node), (a : Node), (b : Node), _) => [inb a.parent t.length, inb b.parent t.length]) fun ((t : List Node), (a : Node), (b : Node), _) => .fresh (.v (.c (bo (S.sooner t a b))))
theorem ok59 : SumOK Try.prog 59 sm59 := by
  refine sum_ev Try.f59 (lv := lv59) (lcs := []) (sig := sg59) (by kernel_rfl) ⟨by kernel_rfl, by kernel_rfl, by kernel_rfl⟩ (sig_cons ok89 sig_nil) (no_loops (by kernel_rfl)) ?_
  rintro ⟨(t : List Node), (a : Node), (b : Node), _⟩ hpre
  have hp : inb a.parent t.length = true ∧ inb b.parent t.length = true := by simpa using hpre
  suffices hnf : ((a.cost != b.cost) = true → some (AV.v (V1.c (C.val (Value.bool (decide (a.cost < b.cost)))))) = some (AV.v (V1.c (C.val (Value.bool (S.sooner t a b)))))) ∧ ((a.cost != b.cost) = false → ((!(a.vert.kind == b.vert.kind && (a.vert.id == b.vert.id && true))) = true → some (AV.v (V1.c (C.val (Value.bool (S.first a.vert b.vert))))) = some (AV.v (V1.c (C.val (Value.bool (S.sooner t a b)))))) ∧ ((!(a.vert.kind == b.vert.kind && (a.vert.id == b.vert.id && true))) = false → ((a.parent != b.parent) = true → inb a.parent t.length = true ∧ inb b.parent t.length = true ∧ some (AV.v (V1.c (C.val (Value.bool (S.first (t.getD a.parent.toNat (zero K.node)).vert (t.getD b.parent.toNat (zero K.node)).vert))))) = some (AV.v (V1.c (C.val (Value.bool (S.sooner t a b)))))) ∧ ((a.parent != b.parent) = false → some (AV.v (V1.c (C.val (Value.bool false)))) = some (AV.v (V1.c (C.val (Value.bool (S.sooner t a b)))))))) by (apply nfto hnf; kernel_rfl)
  refine ⟨fun h => ?_, fun h => ⟨fun h2 => ?_, fun h2 => ⟨fun h3 => ⟨hp.1, hp.2, ?_⟩, fun h3 => ?_⟩⟩⟩
  · rw [S.sooner, if_pos h]
  · rw [S.sooner, if_neg (by rw [h]; decide), if_pos (show (!(S.veq a.vert b.vert)) = true from h2)]
  · rw [S.sooner, if_neg (by rw [h]; decide), if_neg (by rw [show (!(S.veq a.vert b.vert)) = false from h2]; decide), if_pos h3]
  · rw [S.sooner, if_neg (by rw [h]; decide), if_neg (by rw [show (!(S.veq a.vert b.vert)) = false from h2]; decide), if_neg (by rw [h3]; decide)]
theorem place_r (t : List Node) (v : Vert) : -1 ≤ S.place t v ∧ S.place t v < t.length := by
  unfold S.place
  cases h : S.placeAt t v with
  | none => simp; omega
  | some j => have := scan_some h; simp; omega
/-! ### is the root there? -/
def S.isOr (ro : Vert) (f : Bool) (v : Vert) : Bool := f || S.veq v ro
def hd25a : List HK := [.box 2 2 .tmap 30, .box 3 3 .vert 38, .av 5 .bool, .av 6 .int]
def lc25a : LS := mkLS hd25a (fun ((m : TMap), (ro : Vert), (f : Bool), (i : Int), _) => [decide (i = 0), S.okLen m.verts.length]) fun ((m : TMap), (ro : Vert), (f : Bool), (i : Int), _) =>
  .one (.exit 0) ⟨[(2, .v (.c (.ptr 2 0))), (3, .v (.c (.ptr 3 0))), (5, .v (.c (bo (S.iter (S.isOr ro) m.verts (zero .vert) (m.verts.length) 0 f))))], [(2, .box m.cells 30), (3, .box (cells .vert ro) 38)]⟩
noncomputable def c25a : Code := sub (bodyOf Try.f25) [1, 1, 0, 1, 0, 0]
theorem lok25a : LoopOK Try.prog 99 c25a lc25a := by
  refine loop_ev (sig := []) (lcs := []) (lv := lv25) c25a (fun v => by kernel_rfl) sig_nil (no_loops (by kernel_rfl)) ?_
  rintro ⟨(m : TMap), (ro : Vert), (f : Bool), (i0 : Int), _⟩ hpre
  have hp : i0 = 0 ∧ S.okLen m.verts.length = true := by simpa using hpre
  have hp0 := hp.1
  have hp1 := hp.2
  subst hp0
  have hl := okLen_r hp1
  clear hp hpre
  refine ⟨fun n u => u.1 = m ∧ u.2.1 = ro ∧ 0 ≤ (u.2.2.2.1 : Int) ∧ (u.2.2.2.1 : Int) + n = ((m.verts.length : Nat) : Int) ∧ S.iter (S.isOr ro) m.verts (zero .vert) (n) u.2.2.2.1 u.2.2.1 = S.iter (S.isOr ro) m.verts (zero .vert) (m.verts.length) 0 f, (m.verts.length) - (0 : Nat), ⟨rfl, rfl, Int.le_refl 0, by first | exact Int.zero_add _ | (show (0 : Int) + _ = _; omega), rfl⟩, ?_⟩
  rintro Q hQ n ⟨(m' : TMap), (ro' : Vert), (f' : Bool), (i' : Int), _⟩ hI
  have e0 : m' = m := hI.1
  have e1 : ro' = ro := hI.2.1
  have h0 : 0 ≤ i' := hI.2.2.1
  have hn : i' + n = ((m.verts.length : Nat) : Int) := hI.2.2.2.1
  have hs : S.iter (S.isOr ro) m.verts (zero .vert) (n) i' f' = S.iter (S.isOr ro) m.verts (zero .vert) (m.verts.length) 0 f := hI.2.2.2.2
  subst e0
  subst e1
  have hQ1 : ∀ r : Bool, r = S.iter (S.isOr ro') m'.verts (zero .vert) (m'.verts.length) 0 f → Q ((.exit 0)) ⟨[(2, .v (.c (.ptr 2 0))), (3, .v (.c (.ptr 3 0))), (5, .v (.c (bo r)))], [(2, .box m'.cells 30), (3, .box (cells .vert ro') 38)]⟩ := by
    intro r hr
    subst hr
    exact hQ
  clear hI hQ
  generalize S.iter (S.isOr ro') m'.verts (zero .vert) (m'.verts.length) 0 f = res at hs hQ1
  suffices hnf : (decide (i' < (↑m'.verts.length : Int)) = true → (!!f' || inb i' m'.verts.length) = true ∧ ∃ n', n' < n ∧ m' = m' ∧ ro' = ro' ∧ (0 : Int) ≤ IntKind.i64.wrap (i' + (1 : Int)) ∧ IntKind.i64.wrap (i' + (1 : Int)) + (↑n' : Int) = (↑m'.verts.length : Int) ∧ S.iter (S.isOr ro') m'.verts (zero K.vert) n' (IntKind.i64.wrap (i' + (1 : Int))) (f' || (m'.verts.getD i'.toNat (zero K.vert)).kind == ro'.kind && ((m'.verts.getD i'.toNat (zero K.vert)).id == ro'.id && true)) = res) ∧ (decide (i' < (↑m'.verts.length : Int)) = false → Q (Exit.exit (0 : Nat)) { s := [((2 : Nat), AV.v (V1.c (C.ptr (2 : Nat) (0 : Nat)))), ((3 : Nat), AV.v (V1.c (C.ptr (3 : Nat) (0 : Nat)))), ((5 : Nat), AV.v (V1.c (C.val (Value.bool f'))))], b := [((2 : Nat), Blk.box [C.sl K.vert m'.verts, C.sl K.edge m'.edges, C.sl K.stub m'.stubs, C.sl K.span m'.spans, C.sl K.int m'.wilds] (30 : Nat)), ((3 : Nat), Blk.box [C.val (Value.int IntKind.i64 ro'.kind), C.val (Value.int IntKind.i64 ro'.id)] (38 : Nat))] : St }) by (apply nfto hnf; kernel_rfl)
  cases n with
  | zero =>
    have hno : ¬ i' < ((m'.verts.length : Nat) : Int) := by omega
    exact ⟨fun h => absurd (of_decide_eq_true h) hno, fun _ => hQ1 _ hs⟩
  | succ n =>
    have hib : inb i' (m'.verts.length) = true := by rw [inb_iff]; omega
    have hw : IntKind.i64.wrap (i' + 1) = i' + 1 := wrap_id (by omega) (by omega)
    simp only [S.iter] at hs
    rw [hw, hib]
    refine ⟨fun _ => ⟨by simp, n, by omega, rfl, rfl, by omega, by omega, hs⟩, fun h => ?_⟩
    have := of_decide_eq_false h
    omega
/-! ### one round -/
def S.rNode (t : List Node) (e : Edge) : Node := ⟨e.dst, S.place t e.src, IntKind.i64.wrap ((t.getD (S.place t e.src).toNat (zero .node)).cost + e.cost), e.data⟩
def S.rSkip (t : List Node) (e : Edge) : Bool := decide (S.place t e.src < 0) || decide (S.place t e.dst ≥ 0)
def S.rEdge (t : List Node) (x : Node) (e : Edge) : Node := if S.rSkip t e then x else if decide (x.parent < 0) || S.sooner t (S.rNode t e) x then S.rNode t e else x
def sg25 : List (Nat × Summary) := [(22, sm22), (59, sm59)]
theorem sok25 : SigOK Try.prog sg25 := sig_cons ok22 (sig_cons ok59 sig_nil)
def hd25c : List HK := [.box 2 2 .tmap 30, .row 7 .node 34, .box 8 8 .node 40, .av 9 .int]
def lc25c : LS := mkLS hd25c (fun ((m : TMap), (t : List Node), (x : Node), (i : Int), _) => [decide (i = 0), S.okLen m.edges.length, S.okLen t.length, decide (x.parent < (t.length : Int))]) fun ((m : TMap), (t : List Node), (x : Node), (i : Int), _) =>
  .one (.exit 4) ⟨[(2, .v (.c (.ptr 2 0))), (7, .v (.c (.own 34))), (8, .v (.c (.ptr 8 0)))], [(2, .box m.cells 30), (8, .box (cells .node (S.iter (S.rEdge t) m.edges (zero .edge) (m.edges.length) 0 x)) 40), (34, .arr .node t)]⟩
noncomputable def c25c : Code := sub (bodyOf Try.f25) [1, 1, 1, 1, 1, 0, 0, 0, 1, 0, 1, 0, 1, 0, 0]
theorem lok25c : LoopOK Try.prog 99 c25c lc25c := by
  refine loop_ev (sig := sg25) (lcs := []) (lv := lv25) c25c (fun v => by kernel_rfl) sok25 (no_loops (by kernel_rfl)) ?_
  rintro ⟨(m : TMap), (t : List Node), (x : Node), (i0 : Int), _⟩ hpre
  have hp : i0 = 0 ∧ S.okLen m.edges.length = true ∧ S.okLen t.length = true ∧ x.parent < (t.length : Int) := by simpa using hpre
  have hp0 := hp.1
  have hp1 := hp.2.1
  have hp2 := hp.2.2.1
  have hp3 := hp.2.2.2
  subst hp0
  have hl := okLen_r hp1
  clear hp hpre
  refine ⟨fun n u => u.1 = m ∧ u.2.1 = t ∧ 0 ≤ (u.2.2.2.1 : Int) ∧ (u.2.2.2.1 : Int) + n = ((m.edges.length : Nat) : Int) ∧ (u.2.2.1 : Node).parent < (t.length : Int) ∧ S.iter (S.rEdge t) m.edges (zero .edge) (n) u.2.2.2.1 u.2.2.1 = S.iter (S.rEdge t) m.edges (zero .edge) (m.edges.length) 0 x, (m.edges.length) - (0 : Nat), ⟨rfl, rfl, Int.le_refl 0, by first | exact Int.zero_add _ | (show (0 : Int) + _ = _; omega), hp3, rfl⟩, ?_⟩
  rintro Q hQ n ⟨(m' : TMap), (t' : List Node), (x' : Node), (i' : Int), _⟩ hI
  have e0 : m' = m := hI.1
  have e1 : t' = t := hI.2.1
  have h0 : 0 ≤ i' := hI.2.2.1
  have hn : i' + n = ((m.edges.length : Nat) : Int) := hI.2.2.2.1
  have hx : x'.parent < (t.length : Int) := hI.2.2.2.2.1
  have hs : S.iter (S.rEdge t) m.edges (zero .edge) (n) i' x' = S.iter (S.rEdge t) m.edges (zero .edge) (m.edges.length) 0 x := hI.2.2.2.2.2
  subst e0
  subst e1
  have hQ1 : ∀ r : Node, r = S.iter (S.rEdge t') m'.edges (zero .edge) (m'.edges.length) 0 x → Q ((.exit 4)) ⟨[(2, .v (.c (.ptr 2 0))), (7, .v (.c (.own 34))), (8, .v (.c (.ptr 8 0)))], [(2, .box m'.cells 30), (8, .box (cells .node r) 40), (34, .arr .node t')]⟩ := by
    intro r hr
    subst hr
    exact hQ
  clear hI hQ
  generalize S.iter (S.rEdge t') m'.edges (zero .edge) (m'.edges.length) 0 x = res at hs hQ1
  suffices hnf : (decide (i' < (↑m'.edges.length : Int)) = true → inb i' m'.edges.length = true ∧ S.okLen t'.length = true ∧ (!!decide (S.place t' (m'.edges.getD i'.toNat (zero K.edge)).src < (0 : Int)) || S.okLen t'.length) = true ∧ ((decide (S.place t' (m'.edges.getD i'.toNat (zero K.edge)).src < (0 : Int)) || decide (S.place t' (m'.edges.getD i'.toNat (zero K.edge)).dst ≥ (0 : Int))) = true → ∃ n', n' < n ∧ m' = m' ∧ t' = t' ∧ (0 : Int) ≤ IntKind.i64.wrap (i' + (1 : Int)) ∧ IntKind.i64.wrap (i' + (1 : Int)) + (↑n' : Int) = (↑m'.edges.length : Int) ∧ x'.parent < (↑t'.length : Int) ∧ S.iter (S.rEdge t') m'.edges (zero K.edge) n' (IntKind.i64.wrap (i' + (1 : Int))) x' = res) ∧ ((decide (S.place t' (m'.edges.getD i'.toNat (zero K.edge)).src < (0 : Int)) || decide (S.place t' (m'.edges.getD i'.toNat (zero K.edge)).dst ≥ (0 : Int))) = false → inb (S.place t' (m'.edges.getD i'.toNat (zero K.edge)).src) t'.length = true ∧ inb (S.place t' (m'.edges.getD i'.toNat (zero K.edge)).src) t'.length = true ∧ (!!decide (x'.parent < (0 : Int)) || inb (S.place t' (m'.edges.getD i'.toNat (zero K.edge)).src) t'.length) = true ∧ (!!decide (x'.parent < (0 : Int)) || inb x'.parent t'.length) = true ∧ ((decide (x'.parent < (0 : Int)) || S.sooner t' { vert := (m'.edges.getD i'.toNat (zero K.edge)).dst, parent := S.place t' (m'.edges.getD i'.toNat (zero K.edge)).src, cost := IntKind.i64.wrap ((t'.getD (S.place t' (m'.edges.getD i'.toNat (zero K.edge)).src).toNat (zero K.node)).cost + (m'.edges.getD i'.toNat (zero K.edge)).cost), data := (m'.edges.getD i'.toNat (zero K.edge)).data : Node } x') = true → ∃ n', n' < n ∧ m' = m' ∧ t' = t' ∧ (0 : Int) ≤ IntKind.i64.wrap (i' + (1 : Int)) ∧ IntKind.i64.wrap (i' + (1 : Int)) + (↑n' : Int) = (↑m'.edges.length : Int) ∧ { vert := (m'.edges.getD i'.toNat (zero K.edge)).dst, parent := S.place t' (m'.edges.getD i'.toNat (zero K.edge)).src, cost := IntKind.i64.wrap ((t'.getD (S.place t' (m'.edges.getD i'.toNat (zero K.edge)).src).toNat (zero K.node)).cost + (m'.edges.getD i'.toNat (zero K.edge)).cost), data := (m'.edges.getD i'.toNat (zero K.edge)).data : Node }.parent < (↑t'.length : Int) ∧ S.iter (S.rEdge t') m'.edges (zero K.edge) n' (IntKind.i64.wrap (i' + (1 : Int))) { vert := (m'.edges.getD i'.toNat (zero K.edge)).dst, parent := S.place t' (m'.edges.getD i'.toNat (zero K.edge)).src, cost := IntKind.i64.wrap ((t'.getD (S.place t' (m'.edges.getD i'.toNat (zero K.edge)).src).toNat (zero K.node)).cost + (m'.edges.getD i'.toNat (zero K.edge)).cost), data := (m'.edges.getD i'.toNat (zero K.edge)).data : Node } = res) ∧ ((decide (x'.parent < (0 : Int)) || S.sooner t' { vert := (m'.edges.getD i'.toNat (zero K.edge)).dst, parent := S.place t' (m'.edges.getD i'.toNat (zero K.edge)).src, cost := IntKind.i64.wrap ((t'.getD (S.place t' (m'.edges.getD i'.toNat (zero K.edge)).src).toNat (zero K.node)).cost + (m'.edges.getD i'.toNat (zero K.edge)).cost), data := (m'.edges.getD i'.toNat (zero K.edge)).data : Node } x') = false → ∃ n', n' < n ∧ m' = m' ∧ t' = t' ∧ (0 : Int) ≤ IntKind.i64.wrap (i' + (1 : Int)) ∧ IntKind.i64.wrap (i' + (1 : Int)) + (↑n' : Int) = (↑m'.edges.length : Int) ∧ x'.parent < (↑t'.length : Int) ∧ S.iter (S.rEdge t') m'.edges (zero K.edge) n' (IntKind.i64.wrap (i' + (1 : Int))) x' = res))) ∧ (decide (i' < (↑m'.edges.length : Int)) = false → Q (Exit.exit (4 : Nat)) { s := [((2 : Nat), AV.v (V1.c (C.ptr (2 : Nat) (0 : Nat)))), ((7 : Nat), AV.v (V1.c (C.own (34 : Nat)))), ((8 : Nat), AV.v (V1.c (C.ptr (8 : Nat) (0 : Nat))))], b := [((2 : Nat), Blk.box [C.sl K.vert m'.verts, C.sl K.edge m'.edges, C.sl K.stub m'.stubs, C.sl K.span m'.spans, C.sl K.int m'.wilds] (30 : Nat)), ((8 : Nat), Blk.box [C.val (Value.int IntKind.i64 x'.vert.kind), C.val (Value.int IntKind.i64 x'.vert.id), C.val (Value.int IntKind.i64 x'.parent), C.val (Value.int IntKind.i64 x'.cost), C.val (Value.int IntKind.i64 x'.data)] (40 : Nat)), ((34 : Nat), Blk.arr K.node t')] : St }) by (apply nfto hnf; kernel_rfl)
  cases n with
  | zero =>
    have hno : ¬ i' < ((m'.edges.length : Nat) : Int) := by omega
    exact ⟨fun h => absurd (of_decide_eq_true h) hno, fun _ => hQ1 _ hs⟩
  | succ n =>
    have hib : inb i' (m'.edges.length) = true := by rw [inb_iff]; omega
    have hw : IntKind.i64.wrap (i' + 1) = i' + 1 := wrap_id (by omega) (by omega)
    simp only [S.iter] at hs
    rw [hw]
    generalize m'.edges.getD i'.toNat (zero .edge) = e at hs
    have p1 := place_r t' e.src
    have fin : ∀ r : Node, r = S.rEdge t' x' e → r.parent < (t'.length : Int) → ∃ n', n' < n + 1 ∧ m' = m' ∧ t' = t' ∧ (0 : Int) ≤ i' + 1 ∧ i' + 1 + (n' : Int) = ((m'.edges.length : Nat) : Int) ∧ r.parent < (t'.length : Int) ∧ S.iter (S.rEdge t') m'.edges (zero .edge) n' (i' + 1) r = res := by
      intro r hr hb
      subst hr
      exact ⟨n, by omega, rfl, rfl, by omega, by omega, hb, hs⟩
    have inbp : S.rSkip t' e = false → inb (S.place t' e.src) t'.length = true := fun h => by
      simp only [S.rSkip, Bool.or_eq_false_iff, decide_eq_false_iff_not] at h
      rw [inb_iff]; omega
    refine ⟨fun _ => ⟨hib, hp2, by rw [hp2]; simp, fun a => fin x' ?_ hx, fun a => ⟨inbp a, inbp a, by rw [inbp a]; simp, ?_, fun b => fin (S.rNode t' e) ?_ p1.2, fun b => fin x' ?_ hx⟩⟩, fun h => ?_⟩
    · rw [S.rEdge, if_pos (show S.rSkip t' e = true from a)]
    · cases hd : decide (x'.parent < 0) with
      | true => rfl
      | false =>
        have := of_decide_eq_false hd
        have : inb x'.parent t'.length = true := by rw [inb_iff]; omega
        rw [this]; rfl
    · rw [S.rEdge, if_neg (by rw [show S.rSkip t' e = false from a]; decide), if_pos (show (decide (x'.parent < 0) || S.sooner t' (S.rNode t' e) x') = true from b)]
    · rw [S.rEdge, if_neg (by rw [show S.rSkip t' e = false from a]; decide), if_neg (by rw [show (decide (x'.parent < 0) || S.sooner t' (S.rNode t' e) x') = false from b]; decide)]
    · have := of_decide_eq_false h
      omega
/-! ### rounds -/
def S.rRound (m : TMap) (t : List Node) : Node := S.iter (S.rEdge t) m.edges (zero .edge) m.edges.length 0 ⟨⟨0, 0⟩, -1, 0, 0⟩
def S.rLoop (m : TMap) : Nat → List Node → List Node
  | 0, t => t
  | n + 1, t => if (S.rRound m t).parent < 0 then t else S.rLoop m n (t ++ [S.rRound m t])
def hd25b : List HK := [.box 2 2 .tmap 30, .row 7 .node 34]
def lc25b : LS := mkLS hd25b (fun ((m : TMap), (t : List Node), _) => [S.okLen m.edges.length, S.small m.verts.length, decide (t.length = 1), decide (0 < m.verts.length)]) fun ((m : TMap), (t : List Node), _) =>
  .one (.exit 2) ⟨[(7, .v (.c (.own 34)))], [(34, .arr .node (S.rLoop m m.verts.length t))]⟩
noncomputable def c25b : Code := sub (bodyOf Try.f25) [1, 1, 1, 1, 1, 0, 0, 0]
theorem lok25b : LoopOK Try.prog 99 c25b lc25b := by
  refine loop_ev (sig := sg25) (lcs := [(12, lc25c)]) (lv := lv25) c25b (fun v => by kernel_rfl) sok25 (one_loop (c := c25c) (by kernel_rfl) lok25c) ?_
  rintro ⟨(m : TMap), (t : List Node), _⟩ hpre
  have hp : S.okLen m.edges.length = true ∧ S.small m.verts.length = true ∧ t.length = 1 ∧ 0 < m.verts.length := by simpa using hpre
  have hl := hp.1
  have hsm := small_r hp.2.1
  have ht := hp.2.2.1
  have hv := hp.2.2.2
  clear hp hpre
  refine ⟨fun n u => u.1 = m ∧ (u.2.1 : List Node).length + n = m.verts.length + 1 ∧ S.rLoop m n u.2.1 = S.rLoop m m.verts.length t, m.verts.length, ⟨rfl, by show t.length + _ = _; omega, rfl⟩, ?_⟩
  rintro Q hQ n ⟨(m' : TMap), (t' : List Node), _⟩ hI
  have e0 : m' = m := hI.1
  have hn : t'.length + n = m.verts.length + 1 := hI.2.1
  have hs : S.rLoop m n t' = S.rLoop m m.verts.length t := hI.2.2
  subst e0
  have hQ1 : Q (.exit 2) ⟨[(7, .v (.c (.own 34)))], [(34, .arr .node (S.rLoop m' m'.verts.length t))]⟩ := hQ
  clear hI hQ
  generalize S.rLoop m' m'.verts.length t = res at hs hQ1
  suffices hnf : (decide ((↑t'.length : Int) ≤ (↑m'.verts.length : Int)) = true → true = true ∧ S.okLen m'.edges.length = true ∧ S.okLen t'.length = true ∧ decide ((-1 : Int) < (↑t'.length : Int)) = true ∧ (decide ((S.iter (S.rEdge t') m'.edges (zero K.edge) m'.edges.length (0 : Int) { vert := { kind := (0 : Int), id := (0 : Int) : Vert }, parent := (-1 : Int), cost := (0 : Int), data := (0 : Int) : Node }).parent < (0 : Int)) = true → Q (Exit.exit (2 : Nat)) { s := [((7 : Nat), AV.v (V1.c (C.own (34 : Nat))))], b := [((34 : Nat), Blk.arr K.node t')] : St }) ∧ (decide ((S.iter (S.rEdge t') m'.edges (zero K.edge) m'.edges.length (0 : Int) { vert := { kind := (0 : Int), id := (0 : Int) : Vert }, parent := (-1 : Int), cost := (0 : Int), data := (0 : Int) : Node }).parent < (0 : Int)) = false → roomy t'.length [S.iter (S.rEdge t') m'.edges (zero K.edge) m'.edges.length (0 : Int) { vert := { kind := (0 : Int), id := (0 : Int) : Vert }, parent := (-1 : Int), cost := (0 : Int), data := (0 : Int) : Node }].length (40 : Nat) = true ∧ ∃ n', n' < n ∧ m' = m' ∧ (t' ++ [S.iter (S.rEdge t') m'.edges (zero K.edge) m'.edges.length (0 : Int) { vert := { kind := (0 : Int), id := (0 : Int) : Vert }, parent := (-1 : Int), cost := (0 : Int), data := (0 : Int) : Node }]).length + n' = m'.verts.length + (1 : Nat) ∧ S.rLoop m' n' (t' ++ [S.iter (S.rEdge t') m'.edges (zero K.edge) m'.edges.length (0 : Int) { vert := { kind := (0 : Int), id := (0 : Int) : Vert }, parent := (-1 : Int), cost := (0 : Int), data := (0 : Int) : Node }]) = res)) ∧ (decide ((↑t'.length : Int) ≤ (↑m'.verts.length : Int)) = false → Q (Exit.exit (2 : Nat)) { s := [((7 : Nat), AV.v (V1.c (C.own (34 : Nat))))], b := [((34 : Nat), Blk.arr K.node t')] : St }) by (apply nfto hnf; kernel_rfl)
  have e1 : S.iter (S.rEdge t') m'.edges (zero .edge) m'.edges.length 0 ⟨⟨0, 0⟩, -1, 0, 0⟩ = S.rRound m' t' := rfl
  rw [e1]
  cases n with
  | zero =>
    have hno : ¬ (t'.length : Int) ≤ m'.verts.length := by omega
    refine ⟨fun h => absurd (of_decide_eq_true h) hno, fun _ => ?_⟩
    rw [← hs] at hQ1; exact hQ1
  | succ n =>
    simp only [S.rLoop] at hs
    have ho : S.okLen t'.length = true := by simp [S.okLen]; omega
    refine ⟨fun _ => ⟨rfl, hl, ho, decide_eq_true (by omega), fun h => ?_, fun h => ⟨?_, n, by omega, rfl, ?_, ?_⟩⟩, fun h => ?_⟩
    · rw [if_pos (of_decide_eq_true h)] at hs
      rw [← hs] at hQ1; exact hQ1
    · rw [roomy_iff]; simp only [List.length_singleton]; omega
    · simp only [List.length_append, List.length_singleton]; omega
    · rw [if_neg (of_decide_eq_false h)] at hs; exact hs
    · have := of_decide_eq_false h
      omega
/-! ### the whole -/
def S.isRoot (m : TMap) (ro : Vert) : Bool := S.iter (S.isOr ro) m.verts (zero .vert) m.verts.length 0 false
def S.rtree (m : TMap) (ro : Vert) : List Node := if S.isRoot m ro then S.rLoop m m.verts.length [⟨ro, -1, 0, 0⟩] else []
def sm25 : Summary := mkSm [.tmap, .vert] (fun ((m : TMap), (ro : Vert), _) => [S.small m.verts.length, S.okLen m.edges.length]) fun ((m : TMap), (ro : Vert), _) => .row .node (S.rtree m ro)
theorem loops25 : ∀ c', c' ∈ loopsOf (bodyOf Try.f25) → ∀ lc, look [(3, lc25a), (9, lc25b)] (headId c') = some lc → LoopOK Try.prog 99 c' lc := by
  have h : loopsOf (bodyOf Try.f25) = [c25a, c25b] := by kernel_rfl
  have h1 : headId c25a = 3 := by kernel_rfl
  have h2 : headId c25b = 9 := by kernel_rfl
  rw [h]
  intro c' hc lc hlc
  simp only [List.mem_cons, List.not_mem_nil, or_false] at hc
  rcases hc with rfl | rfl
  · rw [h1] at hlc; obtain rfl := Option.some.inj hlc; exact lok25a
  · rw [h2] at hlc; obtain rfl := Option.some.inj hlc; exact lok25b
theorem ok25 : SumOK Try.prog 25 sm25 := by
  refine sum_ev Try.f25 (lv := lv25) (lcs := [(3, lc25a), (9, lc25b)]) (sig := sg25) (by kernel_rfl) ⟨by kernel_rfl, by kernel_rfl, by kernel_rfl⟩ sok25 loops25 ?_
  rintro ⟨(m : TMap), (ro : Vert), _⟩ hpre
  have hp : S.small m.verts.length = true ∧ S.okLen m.edges.length = true := by simpa using hpre
  have ho := small_ok hp.1
  have hr : S.isRoot m ro = true → 0 < m.verts.length := fun h => by
    unfold S.isRoot at h
    cases hv : m.verts with
    | nil => rw [hv] at h; cases h
    | cons _ _ => simp
  suffices hnf : true = true ∧ S.okLen m.verts.length = true ∧ ((!S.iter (S.isOr ro) m.verts (zero K.vert) m.verts.length (0 : Int) false) = true → some [] = some (S.rtree m ro)) ∧ ((!S.iter (S.isOr ro) m.verts (zero K.vert) m.verts.length (0 : Int) false) = false → S.okLen m.edges.length = true ∧ S.small m.verts.length = true ∧ decide ([{ vert := ro, parent := (-1 : Int), cost := (0 : Int), data := (0 : Int) : Node }].length = (1 : Nat)) = true ∧ decide ((0 : Nat) < m.verts.length) = true ∧ some (S.rLoop m m.verts.length [{ vert := ro, parent := (-1 : Int), cost := (0 : Int), data := (0 : Int) : Node }]) = some (S.rtree m ro)) by (apply nfto hnf; kernel_rfl)
  have e1 : S.iter (S.isOr ro) m.verts (zero .vert) m.verts.length 0 false = S.isRoot m ro := rfl
  rw [e1]
  refine ⟨rfl, ho, fun h => ?_, fun h => ?_⟩
  · have h' : S.isRoot m ro = false := by simpa using h
    rw [S.rtree, if_neg (by rw [h']; decide)]
  · have h' : S.isRoot m ro = true := by simpa using h
    rw [S.rtree, if_pos h']
    exact ⟨hp.2, hp.1, rfl, decide_eq_true (hr h'), rfl⟩

end Go.Proofs.Ytoknhjmcoleejaa
