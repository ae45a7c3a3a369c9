/- SpfParents, the contract: true. No condition. -/
import Derived.Test.YtoknhjmcoleejaaFC
import Derived.Test.YtoknhjmcoleejaaPC
import Derived.Test.YtoknhjmcoleejaaGR
import Derived.Test.YtoknhjmcoleejaaGT
set_option linter.unusedVariables false
set_option linter.unusedSimpArgs false
set_option maxHeartbeats 4000000
namespace Go.Proofs.Ytoknhjmcoleejaa
open Go.RowKit
def lv3 : List (Nat × List Nat) := [(0, [0, 1, 2, 3, 4]), (1, [4, 11]), (2, [4, 11, 27]), (3, [10]), (4, [11, 12]), (5, [11, 12, 13]), (6, [11, 12, 13, 44]), (7, [11, 12, 13]), (8, [11, 12, 13, 14]), (9, [11, 12, 13, 14, 53]), (10, [11, 12, 13, 55]), (11, [10]), (12, [11, 12, 13, 14, 62]), (13, [10]), (14, [11, 12, 13, 14, 15]), (15, [11, 12, 13, 14, 15, 16]), (16, [11, 12, 13, 14, 15, 16, 67]), (17, [11, 12, 13, 14, 15, 16]), (18, [11, 12, 13, 14, 15, 16, 17]), (19, [11, 12, 13, 14, 15, 16]), (20, [11, 12, 13, 123]), (21, [10]), (22, [10]), (1000000, [12]), (1000001, [11, 12, 13]), (1000002, [11, 12, 13, 15]), (1000003, [11, 12, 13, 14, 15, 16])]
/-! ### the edge of a node -/
def S.isPar (t : List Node) (p i : Int) (f : Bool) (e : Edge) : Bool := f || (((S.veq e.src (t.getD p.toNat (zero .node)).vert && S.veq e.dst (t.getD i.toNat (zero .node)).vert) && (t.getD i.toNat (zero .node)).cost == IntKind.i64.wrap ((t.getD p.toNat (zero .node)).cost + e.cost)) && (t.getD i.toNat (zero .node)).data == e.data)
def hd3b : List HK := [.box 11 11 .tmap 30, .row 12 .node 40, .av 13 .int, .av 14 .int, .av 15 .bool, .av 16 .int]
def lc3b : LS := mkLS hd3b (fun ((m : TMap), (t : List Node), (i : Int), (p : Int), (f : Bool), (j : Int), _) => [decide (j = 0), S.okLen m.edges.length, inb i t.length, inb p t.length]) fun ((m : TMap), (t : List Node), (i : Int), (p : Int), (f : Bool), (j : Int), _) =>
  .one (.exit 2) ⟨[(11, .v (.c (.ptr 11 0))), (12, .v (.c (.own 40))), (13, .v (.c (i64 i))), (15, .v (.c (bo (S.iter (S.isPar t p i) m.edges (zero .edge) (m.edges.length) 0 f))))], [(11, .box m.cells 30), (40, .arr .node t)]⟩
noncomputable def c3b : Code := sub (bodyOf Try.f3) [1, 1, 1, 1, 0, 1, 0, 0, 1, 0, 0, 1, 1, 1, 1, 0, 1, 0, 0]
theorem lok3b : LoopOK Try.prog 130 c3b lc3b := by
  refine loop_ev (sig := []) (lcs := []) (lv := lv3) c3b (fun v => by kernel_rfl) sig_nil (no_loops (by kernel_rfl)) ?_
  rintro ⟨(m : TMap), (t : List Node), (i : Int), (p : Int), (f : Bool), (j0 : Int), _⟩ hpre
  have hp : j0 = 0 ∧ S.okLen m.edges.length = true ∧ inb i t.length = true ∧ inb p t.length = true := by simpa using hpre
  have hp0 := hp.1
  have hp1 := hp.2.1
  have hp2 := hp.2.2.1
  have hp3 := hp.2.2.2
  subst hp0
  have hl := okLen_r hp1
  clear hp hpre
  refine ⟨fun n u => u.1 = m ∧ u.2.1 = t ∧ u.2.2.1 = i ∧ u.2.2.2.1 = p ∧ 0 ≤ (u.2.2.2.2.2.1 : Int) ∧ (u.2.2.2.2.2.1 : Int) + n = ((m.edges.length : Nat) : Int) ∧ S.iter (S.isPar t p i) m.edges (zero .edge) (n) u.2.2.2.2.2.1 u.2.2.2.2.1 = S.iter (S.isPar t p i) m.edges (zero .edge) (m.edges.length) 0 f, (m.edges.length) - (0 : Nat), ⟨rfl, rfl, rfl, rfl, Int.le_refl 0, by first | exact Int.zero_add _ | (show (0 : Int) + (((m.edges.length) - 0 : Nat) : Int) = ((m.edges.length : Nat) : Int); omega), rfl⟩, ?_⟩
  rintro Q hQ n ⟨(m' : TMap), (t' : List Node), (i' : Int), (p' : Int), (f' : Bool), (j' : Int), _⟩ hI
  have e0 : m' = m := hI.1
  have e1 : t' = t := hI.2.1
  have e2 : i' = i := hI.2.2.1
  have e3 : p' = p := hI.2.2.2.1
  have h0 : 0 ≤ j' := hI.2.2.2.2.1
  have hn : j' + n = ((m.edges.length : Nat) : Int) := hI.2.2.2.2.2.1
  have hs : S.iter (S.isPar t p i) m.edges (zero .edge) (n) j' f' = S.iter (S.isPar t p i) m.edges (zero .edge) (m.edges.length) 0 f := hI.2.2.2.2.2.2
  subst e0
  subst e1
  subst e2
  subst e3
  have hQ1 : ∀ r : Bool, r = S.iter (S.isPar t' p' i') m'.edges (zero .edge) (m'.edges.length) 0 f → Q ((.exit 2)) ⟨[(11, .v (.c (.ptr 11 0))), (12, .v (.c (.own 40))), (13, .v (.c (i64 i'))), (15, .v (.c (bo r)))], [(11, .box m'.cells 30), (40, .arr .node t')]⟩ := by
    intro r hr
    subst hr
    exact hQ
  clear hI hQ
  generalize S.iter (S.isPar t' p' i') m'.edges (zero .edge) (m'.edges.length) 0 f = res at hs hQ1
  suffices hnf : (decide (j' < (↑m'.edges.length : Int)) = true → inb j' m'.edges.length = true ∧ (!!f' || inb p' t'.length) = true ∧ (!!f' || inb p' t'.length) = true ∧ (!(!f' && ((m'.edges.getD j'.toNat (zero K.edge)).src.kind == (t'.getD p'.toNat (zero K.node)).vert.kind && ((m'.edges.getD j'.toNat (zero K.edge)).src.id == (t'.getD p'.toNat (zero K.node)).vert.id && true))) || inb i' t'.length) = true ∧ (!(!f' && ((m'.edges.getD j'.toNat (zero K.edge)).src.kind == (t'.getD p'.toNat (zero K.node)).vert.kind && ((m'.edges.getD j'.toNat (zero K.edge)).src.id == (t'.getD p'.toNat (zero K.node)).vert.id && true))) || inb i' t'.length) = true ∧ (!(!f' && ((m'.edges.getD j'.toNat (zero K.edge)).src.kind == (t'.getD p'.toNat (zero K.node)).vert.kind && ((m'.edges.getD j'.toNat (zero K.edge)).src.id == (t'.getD p'.toNat (zero K.node)).vert.id && true) && ((m'.edges.getD j'.toNat (zero K.edge)).dst.kind == (t'.getD i'.toNat (zero K.node)).vert.kind && ((m'.edges.getD j'.toNat (zero K.edge)).dst.id == (t'.getD i'.toNat (zero K.node)).vert.id && true)))) || inb i' t'.length) = true ∧ (!(!f' && ((m'.edges.getD j'.toNat (zero K.edge)).src.kind == (t'.getD p'.toNat (zero K.node)).vert.kind && ((m'.edges.getD j'.toNat (zero K.edge)).src.id == (t'.getD p'.toNat (zero K.node)).vert.id && true) && ((m'.edges.getD j'.toNat (zero K.edge)).dst.kind == (t'.getD i'.toNat (zero K.node)).vert.kind && ((m'.edges.getD j'.toNat (zero K.edge)).dst.id == (t'.getD i'.toNat (zero K.node)).vert.id && true)))) || inb i' t'.length) = true ∧ (!(!f' && ((m'.edges.getD j'.toNat (zero K.edge)).src.kind == (t'.getD p'.toNat (zero K.node)).vert.kind && ((m'.edges.getD j'.toNat (zero K.edge)).src.id == (t'.getD p'.toNat (zero K.node)).vert.id && true) && ((m'.edges.getD j'.toNat (zero K.edge)).dst.kind == (t'.getD i'.toNat (zero K.node)).vert.kind && ((m'.edges.getD j'.toNat (zero K.edge)).dst.id == (t'.getD i'.toNat (zero K.node)).vert.id && true)))) || inb p' t'.length) = true ∧ (!(!f' && ((m'.edges.getD j'.toNat (zero K.edge)).src.kind == (t'.getD p'.toNat (zero K.node)).vert.kind && ((m'.edges.getD j'.toNat (zero K.edge)).src.id == (t'.getD p'.toNat (zero K.node)).vert.id && true) && ((m'.edges.getD j'.toNat (zero K.edge)).dst.kind == (t'.getD i'.toNat (zero K.node)).vert.kind && ((m'.edges.getD j'.toNat (zero K.edge)).dst.id == (t'.getD i'.toNat (zero K.node)).vert.id && true)))) || inb p' t'.length) = true ∧ (!(!f' && ((m'.edges.getD j'.toNat (zero K.edge)).src.kind == (t'.getD p'.toNat (zero K.node)).vert.kind && ((m'.edges.getD j'.toNat (zero K.edge)).src.id == (t'.getD p'.toNat (zero K.node)).vert.id && true) && ((m'.edges.getD j'.toNat (zero K.edge)).dst.kind == (t'.getD i'.toNat (zero K.node)).vert.kind && ((m'.edges.getD j'.toNat (zero K.edge)).dst.id == (t'.getD i'.toNat (zero K.node)).vert.id && true)) && (t'.getD i'.toNat (zero K.node)).cost == IntKind.i64.wrap ((t'.getD p'.toNat (zero K.node)).cost + (m'.edges.getD j'.toNat (zero K.edge)).cost))) || inb i' t'.length) = true ∧ (!(!f' && ((m'.edges.getD j'.toNat (zero K.edge)).src.kind == (t'.getD p'.toNat (zero K.node)).vert.kind && ((m'.edges.getD j'.toNat (zero K.edge)).src.id == (t'.getD p'.toNat (zero K.node)).vert.id && true) && ((m'.edges.getD j'.toNat (zero K.edge)).dst.kind == (t'.getD i'.toNat (zero K.node)).vert.kind && ((m'.edges.getD j'.toNat (zero K.edge)).dst.id == (t'.getD i'.toNat (zero K.node)).vert.id && true)) && (t'.getD i'.toNat (zero K.node)).cost == IntKind.i64.wrap ((t'.getD p'.toNat (zero K.node)).cost + (m'.edges.getD j'.toNat (zero K.edge)).cost))) || inb i' t'.length) = true ∧ ∃ n', n' < n ∧ m' = m' ∧ t' = t' ∧ i' = i' ∧ p' = p' ∧ (0 : Int) ≤ IntKind.i64.wrap (j' + (1 : Int)) ∧ IntKind.i64.wrap (j' + (1 : Int)) + (↑n' : Int) = (↑m'.edges.length : Int) ∧ S.iter (S.isPar t' p' i') m'.edges (zero K.edge) n' (IntKind.i64.wrap (j' + (1 : Int))) (f' || (m'.edges.getD j'.toNat (zero K.edge)).src.kind == (t'.getD p'.toNat (zero K.node)).vert.kind && ((m'.edges.getD j'.toNat (zero K.edge)).src.id == (t'.getD p'.toNat (zero K.node)).vert.id && true) && ((m'.edges.getD j'.toNat (zero K.edge)).dst.kind == (t'.getD i'.toNat (zero K.node)).vert.kind && ((m'.edges.getD j'.toNat (zero K.edge)).dst.id == (t'.getD i'.toNat (zero K.node)).vert.id && true)) && (t'.getD i'.toNat (zero K.node)).cost == IntKind.i64.wrap ((t'.getD p'.toNat (zero K.node)).cost + (m'.edges.getD j'.toNat (zero K.edge)).cost) && (t'.getD i'.toNat (zero K.node)).data == (m'.edges.getD j'.toNat (zero K.edge)).data) = res) ∧ (decide (j' < (↑m'.edges.length : Int)) = false → Q (Exit.exit (2 : Nat)) { s := [((11 : Nat), AV.v (V1.c (C.ptr (11 : Nat) (0 : Nat)))), ((12 : Nat), AV.v (V1.c (C.own (40 : Nat)))), ((13 : Nat), AV.v (V1.c (C.val (Value.int IntKind.i64 i')))), ((15 : Nat), AV.v (V1.c (C.val (Value.bool f'))))], b := [((11 : Nat), Blk.box [C.sl K.vert m'.verts, C.sl K.edge m'.edges, C.sl K.stub m'.stubs, C.sl K.span m'.spans, C.sl K.int m'.wilds] (30 : Nat)), ((40 : Nat), Blk.arr K.node t')] : St }) by (apply nfto hnf; kernel_rfl)
  cases n with
  | zero =>
    have hno : ¬ j' < ((m'.edges.length : Nat) : Int) := by omega
    exact ⟨fun h => absurd (of_decide_eq_true h) hno, fun _ => hQ1 _ hs⟩
  | succ n =>
    have hib : inb j' (m'.edges.length) = true := by rw [inb_iff]; omega
    have hw : IntKind.i64.wrap (j' + 1) = j' + 1 := wrap_id (by omega) (by omega)
    simp only [S.iter] at hs
    rw [hib, hp2, hp3, hw]
    simp only [Bool.or_true, eq_self, true_and]
    refine ⟨fun _ => ⟨n, by omega, by omega, by omega, hs⟩, fun h => ?_⟩
    have := of_decide_eq_false h
    omega
def S.hasPar (es : List Edge) (t : List Node) (p i : Int) : Bool := S.iter (S.isPar t p i) es (zero .edge) es.length 0 false
def S.parOf (t : List Node) (i : Int) : Int := (t.getD i.toNat (zero .node)).parent
def S.parBad (es : List Edge) (t : List Node) (i : Int) : Bool := if i == 0 then S.parOf t i != -1 else (decide (S.parOf t i < 0) || decide (S.parOf t i ≥ i)) || !(S.hasPar es t (S.parOf t i) i)
def hd3a : List HK := [.box 11 11 .tmap 30, .row 12 .node 40, .av 13 .int]
def lc3a : LS := mkLS hd3a (fun ((m : TMap), (t : List Node), (i : Int), _) => [decide (i = 0), S.okLen m.edges.length, S.okLen t.length]) fun ((m : TMap), (t : List Node), (i : Int), _) =>
  .two (S.scan (fun i => S.parBad m.edges t i) (t.length) 0).isSome .ret ⟨[(10, .v (.c (bo false)))], []⟩ (.exit 0) ⟨[(12, .v (.c (.own 40)))], [(40, .arr .node t)]⟩
noncomputable def c3a : Code := sub (bodyOf Try.f3) [1, 1, 1, 1, 0, 1, 0, 0]
theorem lok3a : LoopOK Try.prog 130 c3a lc3a := by
  refine loop_ev (sig := []) (lcs := [(16, lc3b)]) (lv := lv3) c3a (fun v => by kernel_rfl) sig_nil (one_loop (c := c3b) (by kernel_rfl) lok3b) ?_
  rintro ⟨(m : TMap), (t : List Node), (i0 : Int), _⟩ hpre
  have hp : i0 = 0 ∧ S.okLen m.edges.length = true ∧ S.okLen t.length = true := by simpa using hpre
  have hp0 := hp.1
  have hp1 := hp.2.1
  have hp2 := hp.2.2
  subst hp0
  have hl := okLen_r hp2
  clear hp hpre
  refine ⟨fun n u => u.1 = m ∧ u.2.1 = t ∧ 0 ≤ (u.2.2.1 : Int) ∧ (u.2.2.1 : Int) + n = ((t.length : Nat) : Int) ∧ S.scan (fun i => S.parBad m.edges t i) n u.2.2.1 = S.scan (fun i => S.parBad m.edges t i) (t.length) 0, (t.length) - (0 : Nat), ⟨rfl, rfl, Int.le_refl 0, by first | exact Int.zero_add _ | (show (0 : Int) + (((t.length) - 0 : Nat) : Int) = ((t.length : Nat) : Int); omega), rfl⟩, ?_⟩
  rintro Q hQ n ⟨(m' : TMap), (t' : List Node), (i' : Int), _⟩ hI
  have e0 : m' = m := hI.1
  have e1 : t' = t := hI.2.1
  have h0 : 0 ≤ i' := hI.2.2.1
  have hn : i' + n = ((t.length : Nat) : Int) := hI.2.2.2.1
  have hs : S.scan (fun i => S.parBad m.edges t i) (n) i' = S.scan (fun i => S.parBad m.edges t i) (t.length) 0 := hI.2.2.2.2
  subst e0
  subst e1
  have hQ1 := hQ.1
  have hQ2 := hQ.2
  clear hI hQ
  generalize S.scan (fun i => S.parBad m'.edges t' i) (t'.length) 0 = res at hs hQ1 hQ2
  suffices hnf : (decide (i' < (↑t'.length : Int)) = true → inb i' t'.length = true ∧ inb i' t'.length = true ∧ ((i' == (0 : Int)) = true → (((t'.getD i'.toNat (zero K.node)).parent != (-1 : Int)) = true → Q Exit.ret { s := [((10 : Nat), AV.v (V1.c (C.val (Value.bool false))))], b := [] : St }) ∧ (((t'.getD i'.toNat (zero K.node)).parent != (-1 : Int)) = false → ∃ n', n' < n ∧ m' = m' ∧ t' = t' ∧ (0 : Int) ≤ IntKind.i64.wrap (i' + (1 : Int)) ∧ IntKind.i64.wrap (i' + (1 : Int)) + (↑n' : Int) = (↑t'.length : Int) ∧ S.scan (fun i => S.parBad m'.edges t' i) n' (IntKind.i64.wrap (i' + (1 : Int))) = res)) ∧ ((i' == (0 : Int)) = false → ((decide ((t'.getD i'.toNat (zero K.node)).parent < (0 : Int)) || decide ((t'.getD i'.toNat (zero K.node)).parent ≥ i')) = true → Q Exit.ret { s := [((10 : Nat), AV.v (V1.c (C.val (Value.bool false))))], b := [] : St }) ∧ ((decide ((t'.getD i'.toNat (zero K.node)).parent < (0 : Int)) || decide ((t'.getD i'.toNat (zero K.node)).parent ≥ i')) = false → true = true ∧ S.okLen m'.edges.length = true ∧ inb i' t'.length = true ∧ inb (t'.getD i'.toNat (zero K.node)).parent t'.length = true ∧ ((!S.iter (S.isPar t' (t'.getD i'.toNat (zero K.node)).parent i') m'.edges (zero K.edge) m'.edges.length (0 : Int) false) = true → Q Exit.ret { s := [((10 : Nat), AV.v (V1.c (C.val (Value.bool false))))], b := [] : St }) ∧ ((!S.iter (S.isPar t' (t'.getD i'.toNat (zero K.node)).parent i') m'.edges (zero K.edge) m'.edges.length (0 : Int) false) = false → ∃ n', n' < n ∧ m' = m' ∧ t' = t' ∧ (0 : Int) ≤ IntKind.i64.wrap (i' + (1 : Int)) ∧ IntKind.i64.wrap (i' + (1 : Int)) + (↑n' : Int) = (↑t'.length : Int) ∧ S.scan (fun i => S.parBad m'.edges t' i) n' (IntKind.i64.wrap (i' + (1 : Int))) = res)))) ∧ (decide (i' < (↑t'.length : Int)) = false → Q (Exit.exit (0 : Nat)) { s := [((12 : Nat), AV.v (V1.c (C.own (40 : Nat))))], b := [((40 : Nat), Blk.arr K.node t')] : St }) by (apply nfto hnf; kernel_rfl)
  cases n with
  | zero =>
    have hno : ¬ i' < ((t'.length : Nat) : Int) := by omega
    exact ⟨fun h => absurd (of_decide_eq_true h) hno, fun _ => hQ2 (by rw [← hs]; rfl)⟩
  | succ n =>
    simp only [S.scan] at hs
    have hib : inb i' (t'.length) = true := by rw [inb_iff]; omega
    have hw : IntKind.i64.wrap (i' + 1) = i' + 1 := wrap_id (by omega) (by omega)
    rw [hw]
    have yes : S.parBad m'.edges t' i' = true → Q .ret ⟨[(10, .v (.c (bo false)))], []⟩ := fun h => by
      rw [if_pos h] at hs
      exact hQ1 (by rw [← hs]; rfl)
    have no : S.parBad m'.edges t' i' = false → ∃ n', n' < n + 1 ∧ m' = m' ∧ t' = t' ∧ 0 ≤ i' + 1 ∧ i' + 1 + ((n' : Nat) : Int) = (t'.length : Int) ∧ S.scan (fun i => S.parBad m'.edges t' i) n' (i' + 1) = res := fun h => by
      rw [if_neg (by rw [h]; decide)] at hs
      exact ⟨n, by omega, rfl, rfl, by omega, by omega, hs⟩
    have e0 : (i' == 0) = true → S.parBad m'.edges t' i' = (S.parOf t' i' != -1) := fun h => by rw [S.parBad, if_pos h]
    have e1 : (i' == 0) = false → S.parBad m'.edges t' i' = ((decide (S.parOf t' i' < 0) || decide (S.parOf t' i' ≥ i')) || !(S.hasPar m'.edges t' (S.parOf t' i') i')) := fun h => by rw [S.parBad, if_neg (by rw [h]; decide)]
    refine ⟨fun _ => ⟨hib, hib, fun a => ⟨fun b => yes ?_, fun b => no ?_⟩, fun a => ⟨fun b => yes ?_, fun b => ⟨rfl, hp1, hib, ?_, fun c => yes ?_, fun c => no ?_⟩⟩⟩, fun h => ?_⟩
    · rw [e0 a]; exact b
    · rw [e0 a]; exact b
    · rw [e1 a, show (decide (S.parOf t' i' < 0) || decide (S.parOf t' i' ≥ i')) = true from b]; rfl
    · rw [inb_iff]
      simp only [Bool.or_eq_false_iff, decide_eq_false_iff_not] at b
      omega
    · rw [e1 a, show (decide (S.parOf t' i' < 0) || decide (S.parOf t' i' ≥ i')) = false from b]; exact c
    · rw [e1 a, show (decide (S.parOf t' i' < 0) || decide (S.parOf t' i' ≥ i')) = false from b]; exact c
    · have := of_decide_eq_false h
      omega
theorem hasPar_r {es : List Edge} {t : List Node} {p i : Int} {e : Edge} (he : e ∈ es) (h : S.isPar t p i false e = true) : S.hasPar es t p i = true := by
  unfold S.hasPar
  rw [iter_foldl]
  have mono : ∀ (l : List Edge), l.foldl (S.isPar t p i) true = true := by
    intro l
    induction l with
    | nil => rfl
    | cons x l ih => rw [List.foldl_cons]; simp only [S.isPar, Bool.true_or] at ih ⊢; exact ih
  have key : ∀ (l : List Edge) (f : Bool), e ∈ l → l.foldl (S.isPar t p i) f = true := by
    intro l
    induction l with
    | nil => intro f h; cases h
    | cons x l ih =>
      intro f hx
      rw [List.foldl_cons]
      rcases List.mem_cons.1 hx with rfl | hx
      · have : S.isPar t p i f e = true := by
          simp only [S.isPar, Bool.false_or] at h ⊢
          rw [h, Bool.or_true]
        rw [this]
        exact mono l
      · exact ih _ hx
  exact key es false he
theorem par_good {m : TMap} {ro : Vert} (h : ro ∈ m.verts) : (S.scan (fun i => S.parBad m.edges (S.tree m ro) i) (S.tree m ro).length 0).isSome = false := by
  obtain ⟨h1, h2, h3⟩ := tree_par h
  have all : ∀ i : Nat, i < (S.tree m ro).length → S.parBad m.edges (S.tree m ro) i = false := by
    intro i hi
    unfold S.parBad
    by_cases h0 : i = 0
    · subst h0
      rw [if_pos (by rfl)]
      unfold S.parOf
      rw [show (((S.tree m ro).getD ((0 : Nat) : Int).toNat (zero .node)).parent) = -1 from h3]
      rfl
    · rw [if_neg (by simp; omega)]
      obtain ⟨e, he, p, hp, q1, q2, q3, q4, q5⟩ := h1 i (by omega) hi
      have e1 : S.parOf (S.tree m ro) i = p := by unfold S.parOf; rw [Int.toNat_natCast]; exact q1
      rw [e1]
      have : S.hasPar m.edges (S.tree m ro) p i = true := by
        refine hasPar_r he ?_
        simp only [S.isPar, Int.toNat_natCast, Bool.false_or, Bool.and_eq_true, veq_iff, beq_iff_eq]
        exact ⟨⟨⟨q2, q3⟩, q4⟩, q5⟩
      rw [this]
      simp
      omega
  cases hs : S.scan (fun i => S.parBad m.edges (S.tree m ro) i) (S.tree m ro).length 0 with
  | none => rfl
  | some j =>
    obtain ⟨a, b, c, _⟩ := scan_some hs
    have := all j.toNat (by omega)
    rw [Int.toNat_of_nonneg (by omega)] at this
    rw [this] at c
    cases c
theorem gOk_okM {o : List Lsa} (h1 : o.length ≤ 14) (h2 : S.gOk o 100 = true) : S.okM o = true := by
  simp only [S.gOk, List.all_eq_true, Bool.and_eq_true, decide_eq_true_eq] at h2
  simp only [S.okM, Bool.and_eq_true, decide_eq_true_eq, List.all_eq_true]
  refine ⟨by omega, fun x hx => ?_⟩
  have := h2 x hx
  simp only [S.okL, Bool.and_eq_true, decide_eq_true_eq]
  omega
def sg3 : List (Nat × Summary) := [(19, sm19), (18, sm18), (20, sm20), (21, sm21)]
theorem sok3 : SigOK Try.prog sg3 := sig_cons ok19 (sig_cons ok18 (sig_cons ok20 (sig_cons ok21 sig_nil)))
def sm3 : Summary := mkSm [.u8, .sl .u8, .sl .u8, .sl .bl, .u8] (fun _ => []) fun _ => .fresh (.v (.c (bo true)))
theorem ok3 : SumOK Try.prog 3 sm3 := by
  refine sum_ev Try.f3 (lv := lv3) (lcs := [(6, lc3a)]) (sig := sg3) (by kernel_rfl) ⟨by kernel_rfl, by kernel_rfl, by kernel_rfl⟩ sok3 (one_loop (c := c3a) (by kernel_rfl) lok3a) ?_
  rintro ⟨(n : UInt8), (ps : List UInt8), (ns : List UInt8), (one : List Bool), (at' : UInt8), _⟩ hpre
  suffices hnf : decide ((0 : Int) ≤ (↑n.toNat : Int)) = true ∧ decide ((↑n.toNat : Int) ≤ (255 : Int)) = true ∧ S.okM (S.graph (↑n.toNat : Int) ps ns one) = true ∧ (((↑(S.map (S.graph (↑n.toNat : Int) ps ns one)).verts.length : Int) == (0 : Int)) = true → some (AV.v (V1.c (C.val (Value.bool true)))) = some (AV.v (V1.c (C.val (Value.bool true))))) ∧ (((↑(S.map (S.graph (↑n.toNat : Int) ps ns one)).verts.length : Int) == (0 : Int)) = false → ((↑(S.map (S.graph (↑n.toNat : Int) ps ns one)).verts.length : Int) != (0 : Int)) = true ∧ inb ((IntKind.i64.wrap (↑at'.toNat : Int)).tmod (↑(S.map (S.graph (↑n.toNat : Int) ps ns one)).verts.length : Int)) (S.map (S.graph (↑n.toNat : Int) ps ns one)).verts.length = true ∧ S.tiny (S.map (S.graph (↑n.toNat : Int) ps ns one)).verts.length = true ∧ S.okLen (S.map (S.graph (↑n.toNat : Int) ps ns one)).edges.length = true ∧ true = true ∧ S.okLen (S.map (S.graph (↑n.toNat : Int) ps ns one)).edges.length = true ∧ S.okLen (S.tree (S.map (S.graph (↑n.toNat : Int) ps ns one)) ((S.map (S.graph (↑n.toNat : Int) ps ns one)).verts.getD ((IntKind.i64.wrap (↑at'.toNat : Int)).tmod (↑(S.map (S.graph (↑n.toNat : Int) ps ns one)).verts.length : Int)).toNat (zero K.vert))).length = true ∧ ((S.scan (fun i => S.parBad (S.map (S.graph (↑n.toNat : Int) ps ns one)).edges (S.tree (S.map (S.graph (↑n.toNat : Int) ps ns one)) ((S.map (S.graph (↑n.toNat : Int) ps ns one)).verts.getD ((IntKind.i64.wrap (↑at'.toNat : Int)).tmod (↑(S.map (S.graph (↑n.toNat : Int) ps ns one)).verts.length : Int)).toNat (zero K.vert))) i) (S.tree (S.map (S.graph (↑n.toNat : Int) ps ns one)) ((S.map (S.graph (↑n.toNat : Int) ps ns one)).verts.getD ((IntKind.i64.wrap (↑at'.toNat : Int)).tmod (↑(S.map (S.graph (↑n.toNat : Int) ps ns one)).verts.length : Int)).toNat (zero K.vert))).length (0 : Int)).isSome = true → some (AV.v (V1.c (C.val (Value.bool false)))) = some (AV.v (V1.c (C.val (Value.bool true))))) ∧ ((S.scan (fun i => S.parBad (S.map (S.graph (↑n.toNat : Int) ps ns one)).edges (S.tree (S.map (S.graph (↑n.toNat : Int) ps ns one)) ((S.map (S.graph (↑n.toNat : Int) ps ns one)).verts.getD ((IntKind.i64.wrap (↑at'.toNat : Int)).tmod (↑(S.map (S.graph (↑n.toNat : Int) ps ns one)).verts.length : Int)).toNat (zero K.vert))) i) (S.tree (S.map (S.graph (↑n.toNat : Int) ps ns one)) ((S.map (S.graph (↑n.toNat : Int) ps ns one)).verts.getD ((IntKind.i64.wrap (↑at'.toNat : Int)).tmod (↑(S.map (S.graph (↑n.toNat : Int) ps ns one)).verts.length : Int)).toNat (zero K.vert))).length (0 : Int)).isSome = false → some (AV.v (V1.c (C.val (Value.bool (decide ((↑(S.tree (S.map (S.graph (↑n.toNat : Int) ps ns one)) ((S.map (S.graph (↑n.toNat : Int) ps ns one)).verts.getD ((IntKind.i64.wrap (↑at'.toNat : Int)).tmod (↑(S.map (S.graph (↑n.toNat : Int) ps ns one)).verts.length : Int)).toNat (zero K.vert))).length : Int) > (0 : Int)) && true))))) = some (AV.v (V1.c (C.val (Value.bool true)))))) by (apply nfto hnf; kernel_rfl)
  have hn := n.toNat_lt
  obtain ⟨g1, g2⟩ := graph_r (n := (n.toNat : Int)) (by omega) (by omega) ps ns one
  have hM := gOk_okM g1 g2
  obtain ⟨m1, m2⟩ := map_len hM
  refine ⟨decide_eq_true (by omega), decide_eq_true (by omega), hM, ?_⟩
  clear hM
  generalize S.map (S.graph (n.toNat : Int) ps ns one) = m at m1 m2 ⊢
  refine ⟨fun _ => rfl, fun h => ?_⟩
  have hv : (m.verts.length : Int) ≠ 0 := by simpa using h
  have a := Int.tmod_nonneg (a := IntKind.i64.wrap (at'.toNat : Int)) (m.verts.length : Int) (by rw [u8w]; omega)
  have b := Int.tmod_lt_of_pos (IntKind.i64.wrap (at'.toNat : Int)) (b := (m.verts.length : Int)) (by omega)
  generalize (IntKind.i64.wrap (at'.toNat : Int)).tmod (m.verts.length : Int) = q at a b ⊢
  have hro : m.verts.getD q.toNat (zero .vert) ∈ m.verts := by
    have hl : q.toNat < m.verts.length := by omega
    rw [List.getD_eq_getElem?_getD, List.getElem?_eq_getElem hl]
    exact List.getElem_mem hl
  generalize m.verts.getD q.toNat (zero .vert) = ro at hro ⊢
  have h3 := tree_len m ro
  have pg := par_good hro
  obtain ⟨_, t0, _⟩ := tree_par hro
  have hE : S.okLen m.edges.length = true := by simp [S.okLen]; omega
  refine ⟨by rw [bne_iff_ne]; omega, by rw [inb_iff]; omega, by simp [S.tiny]; omega, hE, rfl, hE, by simp [S.okLen]; omega, fun h => ?_, fun h => ?_⟩
  · exact absurd (h.symm.trans pg) (by decide)
  · rw [decide_eq_true (show ((S.tree m ro).length : Int) > 0 by omega)]
    rfl

end Go.Proofs.Ytoknhjmcoleejaa
