/- The tree of the program, its loops. No condition. -/
import Derived.Test.YtoknhjmcoleejaaFC
import Derived.Test.YtoknhjmcoleejaaGK
set_option linter.unusedVariables false
set_option linter.unusedSimpArgs false
set_option maxHeartbeats 4000000
namespace Go.Proofs.Ytoknhjmcoleejaa
open Go.RowKit
def lv21 : List (Nat × List Nat) := [(0, [2, 3]), (1, [2, 3, 23]), (2, [4]), (3, [2, 3, 5]), (4, [2, 3, 5, 26, 27, 28]), (5, [2, 3, 5, 26, 27, 28, 29]), (6, [2, 3, 5, 7, 26, 27, 28]), (7, [2, 3, 5, 26, 27, 28]), (8, [2, 3, 5, 26, 27, 28]), (9, [2, 3, 5, 8]), (10, [2, 5, 8, 9]), (11, [2, 5, 8, 9, 10]), (12, [2, 5, 8, 9, 10, 11]), (13, [2, 5, 8, 9, 10, 11, 42, 43, 44]), (14, [2, 5, 8, 9, 10, 11, 42, 43, 44, 45]), (15, [2, 5, 8, 9, 10, 11, 13, 42, 43, 44]), (16, [2, 5, 8, 9, 10, 11, 13, 14, 15, 42, 43, 44]), (17, [2, 5, 8, 9, 10, 11, 13, 14, 15, 17, 42, 43, 44]), (18, [2, 5, 8, 9, 10, 11, 13, 14, 42, 43, 44, 73]), (19, [2, 5, 8, 9, 10, 11, 18, 42, 43, 44]), (20, [2, 5, 8, 9, 10, 11, 18, 42, 43, 44, 95]), (21, [2, 5, 8, 9, 10, 11, 42, 43, 44]), (22, [2, 5, 8, 9, 10, 11, 42, 43, 44]), (23, [2, 5, 8, 9, 10, 99]), (24, [4]), (25, [2, 5, 8, 9, 10]), (26, [2, 5, 8, 9]), (1000000, [2, 3, 5]), (1000001, [2, 3, 5, 26, 27, 28]), (1000002, [4]), (1000003, [2, 5, 8, 9]), (1000004, [2, 5, 8, 9, 10, 11]), (1000005, [2, 5, 8, 9, 10, 11, 42, 43, 44])]
/-! ### the vertices that there are -/
def S.isStep (kv : List (Vert × Bool)) (v : Vert) : List (Vert × Bool) := S.kvPut v true kv
def S.isMap (vs : List Vert) : List (Vert × Bool) := S.iter S.isStep vs (zero .vert) vs.length 0 []
def hd21a : List HK := [.box 2 2 .tmap 30, .box 3 3 .vert 38, .mpb 5 24, .av 26 (.sl .vert), .av 27 .int, .av 28 .int]
def lc21a : LS := mkLS hd21a (fun ((m : TMap), (ro : Vert), (kv : List (Vert × Bool)), (vs : List Vert), (n : Int), (i : Int), _) => [decide (i = 0), decide (n = vs.length), S.okLen vs.length]) fun ((m : TMap), (ro : Vert), (kv : List (Vert × Bool)), (vs : List Vert), (n : Int), (i : Int), _) =>
  .one (.exit 0) ⟨[(2, .v (.c (.ptr 2 0))), (3, .v (.c (.ptr 3 0))), (5, .v (.c (.mp 24)))], [(2, .box m.cells 30), (3, .box (cells .vert ro) 38), (24, .mpb (S.iter S.isStep vs (zero .vert) vs.length 0 kv))]⟩
noncomputable def c21a : Code := sub (bodyOf Try.f21) [1, 1, 1, 0, 1, 0, 0]
theorem lok21a : LoopOK Try.prog 110 c21a lc21a := by
  refine loop_ev (sig := []) (lcs := []) (lv := lv21) c21a (fun v => by kernel_rfl) sig_nil (no_loops (by kernel_rfl)) ?_
  rintro ⟨(m : TMap), (ro : Vert), (kv : List (Vert × Bool)), (vs : List Vert), (n0 : Int), (i0 : Int), _⟩ hpre
  have hp : i0 = 0 ∧ n0 = vs.length ∧ S.okLen vs.length = true := by simpa using hpre
  have hl := okLen_r hp.2.2
  have e1 := hp.1
  have e2 := hp.2.1
  subst e1 e2
  clear hp hpre
  refine ⟨fun n u => u.1 = m ∧ u.2.1 = ro ∧ u.2.2.2.1 = vs ∧ (u.2.2.2.2.1 : Int) = vs.length ∧ 0 ≤ (u.2.2.2.2.2.1 : Int) ∧ (u.2.2.2.2.2.1 : Int) + n = vs.length ∧ S.iter S.isStep vs (zero .vert) n u.2.2.2.2.2.1 u.2.2.1 = S.iter S.isStep vs (zero .vert) vs.length 0 kv, vs.length, ⟨rfl, rfl, rfl, rfl, Int.le_refl 0, Int.zero_add _, rfl⟩, ?_⟩
  rintro Q hQ n ⟨(m' : TMap), (ro' : Vert), (kv' : List (Vert × Bool)), (vs' : List Vert), (n' : Int), (i : Int), _⟩ hI
  have h1 : m' = m := hI.1
  have h2 : ro' = ro := hI.2.1
  have h3 : vs' = vs := hI.2.2.1
  have h4 : n' = vs.length := hI.2.2.2.1
  have h0 : 0 ≤ i := hI.2.2.2.2.1
  have hn : i + n = vs.length := hI.2.2.2.2.2.1
  have hs : S.iter S.isStep vs (zero .vert) n i kv' = S.iter S.isStep vs (zero .vert) vs.length 0 kv := hI.2.2.2.2.2.2
  have hQ1 : Q (.exit 0) ⟨[(2, .v (.c (.ptr 2 0))), (3, .v (.c (.ptr 3 0))), (5, .v (.c (.mp 24)))], [(2, .box m.cells 30), (3, .box (cells .vert ro) 38), (24, .mpb (S.iter S.isStep vs (zero .vert) vs.length 0 kv))]⟩ := hQ
  subst h1 h2 h3 h4
  clear hI hQ
  generalize S.iter S.isStep vs' (zero .vert) vs'.length 0 kv = res at hs hQ1
  suffices hnf : (decide (i < (↑vs'.length : Int)) = true → inb i vs'.length = true ∧ ∃ n', n' < n ∧ m' = m' ∧ ro' = ro' ∧ vs' = vs' ∧ (↑vs'.length : Int) = (↑vs'.length : Int) ∧ (0 : Int) ≤ IntKind.i64.wrap (i + (1 : Int)) ∧ IntKind.i64.wrap (i + (1 : Int)) + (↑n' : Int) = (↑vs'.length : Int) ∧ S.iter S.isStep vs' (zero K.vert) n' (IntKind.i64.wrap (i + (1 : Int))) (S.kvPut (vs'.getD i.toNat (zero K.vert)) true kv') = res) ∧ (decide (i < (↑vs'.length : Int)) = false → Q (Exit.exit (0 : Nat)) { s := [((2 : Nat), AV.v (V1.c (C.ptr (2 : Nat) (0 : Nat)))), ((3 : Nat), AV.v (V1.c (C.ptr (3 : Nat) (0 : Nat)))), ((5 : Nat), AV.v (V1.c (C.mp (24 : Nat))))], b := [((2 : Nat), Blk.box [C.sl K.vert m'.verts, C.sl K.edge m'.edges, C.sl K.stub m'.stubs, C.sl K.span m'.spans, C.sl K.int m'.wilds] (30 : Nat)), ((3 : Nat), Blk.box [C.val (Value.int IntKind.i64 ro'.kind), C.val (Value.int IntKind.i64 ro'.id)] (38 : Nat)), ((24 : Nat), Blk.mpb kv')] : St }) by (apply nfto hnf; kernel_rfl)
  cases n with
  | zero =>
    have : ¬ i < vs'.length := by omega
    refine ⟨fun h => absurd (of_decide_eq_true h) this, fun _ => ?_⟩
    rw [← hs] at hQ1; exact hQ1
  | succ n =>
    have hib : inb i vs'.length = true := by rw [inb_iff]; omega
    have hw : IntKind.i64.wrap (i + 1) = i + 1 := wrap_id (by omega) (by omega)
    simp only [S.iter] at hs
    rw [hw]
    refine ⟨fun _ => ⟨hib, n, by omega, rfl, rfl, rfl, rfl, by omega, by omega, hs⟩, fun h => ?_⟩
    have : ¬ i < vs'.length := of_decide_eq_false h
    omega
end Go.Proofs.Ytoknhjmcoleejaa
