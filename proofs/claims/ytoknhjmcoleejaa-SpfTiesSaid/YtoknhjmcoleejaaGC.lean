/- The order of nodes. No condition. -/
import Derived.Test.YtoknhjmcoleejaaFC
import Derived.Test.YtoknhjmcoleejaaGB
set_option linter.unusedVariables false
set_option linter.unusedSimpArgs false
namespace Go.Proofs.Ytoknhjmcoleejaa
open Go.RowKit
def lv75 : List (Nat × List Nat) := [(0, [0]), (1, [0, 3]), (2, [3, 6, 7, 8]), (3, [3, 6, 7, 8, 9]), (4, [3, 5, 6, 7, 8]), (5, [3, 5, 6, 7, 8, 14]), (6, [2]), (7, [3, 6, 7, 8]), (8, [2]), (1000000, [3]), (1000001, [3, 6, 7, 8])]
def lv87 : List (Nat × List Nat) := [(0, [2, 3]), (1, [4])]
def lv55 : List (Nat × List Nat) := [(0, [0, 4, 5]), (1, [0, 4, 5, 7]), (2, [7]), (3, [0, 4, 5, 7, 26]), (4, [0, 4, 5, 29]), (5, [7]), (6, [6]), (1000000, [7])]
/-! ### Or -/
def S.orAt (xs : List Int) : Option Int := S.scan (fun i => xs.getD i.toNat 0 != 0) xs.length 0
def S.or (xs : List Int) : Int := if (S.orAt xs).isSome then xs.getD ((S.orAt xs).getD 0).toNat 0 else 0
def hd75 : List HK := [.av 3 .int, .av 6 (.sl .int), .av 7 .int, .av 8 .int]
def lc75 : LS := mkLS hd75 (fun ((z : Int), (xs : List Int), (n : Int), (i : Int), _) => [decide (z = 0), decide (i = 0), decide (n = xs.length), S.okLen xs.length]) fun ((z : Int), (xs : List Int), (n : Int), (i : Int), _) =>
  .two (S.orAt xs).isSome .ret ⟨[(2, .v (.c (i64 (xs.getD ((S.orAt xs).getD 0).toNat 0))))], []⟩ (.exit 0) ⟨[(3, .v (.c (i64 0)))], []⟩
noncomputable def c75 : Code := sub (bodyOf Try.f75) [1,1,0,1,0,0]
theorem lok75 : LoopOK Try.prog 18 c75 lc75 := by
  refine loop_ev (sig := []) (lcs := []) (lv := lv75) c75 (fun v => by kernel_rfl) sig_nil (no_loops (by kernel_rfl)) ?_
  rintro ⟨(z : Int), (xs : List Int), (m : Int), (i0 : Int), _⟩ hpre
  have hp : z = 0 ∧ i0 = 0 ∧ m = xs.length ∧ S.okLen xs.length = true := by simpa using hpre
  obtain ⟨rfl, rfl, rfl, hl⟩ := hp
  have hl := okLen_r hl
  refine ⟨fun n u => u.1 = (0 : Int) ∧ u.2.1 = xs ∧ u.2.2.1 = (xs.length : Int) ∧ 0 ≤ (u.2.2.2.1 : Int) ∧ (u.2.2.2.1 : Int) + n = xs.length ∧ S.scan (fun i => xs.getD i.toNat 0 != 0) n u.2.2.2.1 = S.orAt xs, xs.length, ⟨rfl, rfl, rfl, Int.le_refl 0, Int.zero_add _, rfl⟩, ?_⟩
  rintro Q hQ n ⟨(z : Int), (xs' : List Int), (m : Int), (i : Int), _⟩ hI
  have hz : z = 0 := hI.1
  have hx : xs' = xs := hI.2.1
  have hm : m = xs.length := hI.2.2.1
  have h0 : 0 ≤ i := hI.2.2.2.1
  have hn : i + n = xs.length := hI.2.2.2.2.1
  have hs : S.scan (fun i => xs.getD i.toNat 0 != 0) n i = S.orAt xs := hI.2.2.2.2.2
  have hQ1 := hQ.1
  have hQ2 := hQ.2
  subst hz hx hm
  clear hI
  generalize hr : S.orAt xs' = res at hs hQ1 hQ2
  suffices hnf : (decide (i < (↑xs'.length : Int)) = true → inb i xs'.length = true ∧ ((xs'.getD i.toNat (0 : Int) != (0 : Int)) = true → Q Exit.ret { s := [((2 : Nat), AV.v (V1.c (C.val (Value.int IntKind.i64 (xs'.getD i.toNat (0 : Int))))))], b := [] : St }) ∧ ((xs'.getD i.toNat (0 : Int) != (0 : Int)) = false → ∃ n', n' < n ∧ (0 : Int) = (0 : Int) ∧ xs' = xs' ∧ (↑xs'.length : Int) = (↑xs'.length : Int) ∧ (0 : Int) ≤ IntKind.i64.wrap (i + (1 : Int)) ∧ IntKind.i64.wrap (i + (1 : Int)) + (↑n' : Int) = (↑xs'.length : Int) ∧ S.scan (fun i => xs'.getD i.toNat (0 : Int) != (0 : Int)) n' (IntKind.i64.wrap (i + (1 : Int))) = res)) ∧ (decide (i < (↑xs'.length : Int)) = false → Q (Exit.exit (0 : Nat)) { s := [((3 : Nat), AV.v (V1.c (C.val (Value.int IntKind.i64 (0 : Int)))))], b := [] : St }) by (apply nfto hnf; kernel_rfl)
  cases n with
  | zero =>
    have : ¬ i < xs'.length := by omega
    refine ⟨fun h => absurd (of_decide_eq_true h) this, fun _ => hQ2 (by rw [← hs]; rfl)⟩
  | succ n =>
    simp only [S.scan] at hs
    refine ⟨fun _ => ⟨by rw [inb_iff]; omega, fun h => ?_, fun h => ?_⟩, fun h => ?_⟩
    · rw [if_pos h] at hs
      have := hQ1 (by rw [← hs]; rfl)
      rw [← hs] at this
      exact this
    · rw [if_neg (by rw [h]; decide)] at hs
      have hw : IntKind.i64.wrap (i + 1) = i + 1 := wrap_id (by omega) (by omega)
      exact ⟨n, by omega, rfl, rfl, rfl, by rw [hw]; omega, by rw [hw]; omega, by rw [hw]; exact hs⟩
    · have : ¬ i < xs'.length := of_decide_eq_false h
      omega
def sm75 : Summary := mkSm [.sl .int] (fun ((xs : List Int), _) => [S.okLen xs.length]) fun ((xs : List Int), _) => .fresh (.v (.c (i64 (S.or xs))))
theorem ok75 : SumOK Try.prog 75 sm75 := by
  refine sum_ev Try.f75 (lv := lv75) (lcs := [(3, lc75)]) (sig := []) (by kernel_rfl) ⟨by kernel_rfl, by kernel_rfl, by kernel_rfl⟩ sig_nil (one_loop (c := c75) (by kernel_rfl) lok75) ?_
  rintro ⟨(xs : List Int), _⟩ hpre
  have hp : S.okLen xs.length = true := by simpa using hpre
  suffices hnf : true = true ∧ true = true ∧ decide ((↑xs.length : Int) = (↑xs.length : Int)) = true ∧ S.okLen xs.length = true ∧ ((S.orAt xs).isSome = true → some (AV.v (V1.c (C.val (Value.int IntKind.i64 (xs.getD ((S.orAt xs).getD (0 : Int)).toNat (0 : Int)))))) = some (AV.v (V1.c (C.val (Value.int IntKind.i64 (S.or xs)))))) ∧ ((S.orAt xs).isSome = false → some (AV.v (V1.c (C.val (Value.int IntKind.i64 (0 : Int))))) = some (AV.v (V1.c (C.val (Value.int IntKind.i64 (S.or xs)))))) by (apply nfto hnf; kernel_rfl)
  refine ⟨rfl, rfl, by simp, hp, fun h => ?_, fun h => ?_⟩ <;> simp [S.or, h]
/-! ### the order of vertices, of nodes -/
def S.ahead (a b : Vert) : Int := S.or [IntKind.i64.wrap (0 - S.cmp a.kind b.kind), S.cmp a.id b.id]
def sg87 : List (Nat × Summary) := [(76, sm76), (75, sm75)]
theorem sok87 : SigOK Try.prog sg87 := sig_cons ok76 (sig_cons ok75 sig_nil)
def sm87 : Summary := mkSm [.vert, .vert] (fun _ => []) fun ((a : Vert), (b : Vert), _) => .fresh (.v (.c (i64 (S.ahead a b))))
theorem ok87 : SumOK Try.prog 87 sm87 := by
  refine sum_ev Try.f87 (lv := lv87) (lcs := []) (sig := sg87) (by kernel_rfl) ⟨by kernel_rfl, by kernel_rfl, by kernel_rfl⟩ sok87 (no_loops (by kernel_rfl)) ?_
  rintro ⟨(a : Vert), (b : Vert), _⟩ hpre
  suffices hnf : S.okLen [IntKind.i64.wrap ((0 : Int) - S.cmp a.kind b.kind), S.cmp a.id b.id].length = true ∧ some (AV.v (V1.c (C.val (Value.int IntKind.i64 (S.or [IntKind.i64.wrap ((0 : Int) - S.cmp a.kind b.kind), S.cmp a.id b.id]))))) = some (AV.v (V1.c (C.val (Value.int IntKind.i64 (S.ahead a b))))) by (apply nfto hnf; kernel_rfl)
  exact ⟨rfl, rfl⟩
def S.betterC (t : List Node) (a b : Node) : Int :=
  if S.cmp a.cost b.cost != 0 then S.cmp a.cost b.cost else if !(S.veq a.vert b.vert) then S.ahead a.vert b.vert else S.ahead (t.getD a.parent.toNat (zero .node)).vert (t.getD b.parent.toNat (zero .node)).vert
def S.better (t : List Node) (a b : Node) : Bool := decide (S.betterC t a b < 0)
def sg55 : List (Nat × Summary) := [(76, sm76), (87, sm87)]
theorem sok55 : SigOK Try.prog sg55 := sig_cons ok76 (sig_cons ok87 sig_nil)
def sm55 : Summary := mkSm [.sl .node, .node, .node] (fun ((t : List Node), (a : Node), (b : Node), _) => [inb a.parent t.length, inb b.parent t.length]) fun ((t : List Node), (a : Node), (b : Node), _) => .fresh (.v (.c (bo (S.better t a b))))
theorem ok55 : SumOK Try.prog 55 sm55 := by
  refine sum_ev Try.f55 (lv := lv55) (lcs := []) (sig := sg55) (by kernel_rfl) ⟨by kernel_rfl, by kernel_rfl, by kernel_rfl⟩ sok55 (no_loops (by kernel_rfl)) ?_
  rintro ⟨(t : List Node), (a : Node), (b : Node), _⟩ hpre
  have hp : inb a.parent t.length = true ∧ inb b.parent t.length = true := by simpa using hpre
  suffices hnf : ((S.cmp a.cost b.cost != (0 : Int)) = true → some (AV.v (V1.c (C.val (Value.bool (decide (S.cmp a.cost b.cost < (0 : Int))))))) = some (AV.v (V1.c (C.val (Value.bool (S.better t a b)))))) ∧ ((S.cmp a.cost b.cost != (0 : Int)) = false → ((!(a.vert.kind == b.vert.kind && (a.vert.id == b.vert.id && true))) = true → some (AV.v (V1.c (C.val (Value.bool (decide (S.ahead a.vert b.vert < (0 : Int))))))) = some (AV.v (V1.c (C.val (Value.bool (S.better t a b)))))) ∧ ((!(a.vert.kind == b.vert.kind && (a.vert.id == b.vert.id && true))) = false → inb a.parent t.length = true ∧ inb b.parent t.length = true ∧ some (AV.v (V1.c (C.val (Value.bool (decide (S.ahead (t.getD a.parent.toNat (zero K.node)).vert (t.getD b.parent.toNat (zero K.node)).vert < (0 : Int))))))) = some (AV.v (V1.c (C.val (Value.bool (S.better t a b))))))) by (apply nfto hnf; kernel_rfl)
  refine ⟨fun h => ?_, fun h => ⟨fun h2 => ?_, fun h2 => ⟨hp.1, hp.2, ?_⟩⟩⟩
  · simp only [S.better, S.betterC, h, if_true]
  · have h2' : (!(S.veq a.vert b.vert)) = true := h2
    simp only [S.better, S.betterC, h, h2', if_true, Bool.false_eq_true, if_false]
  · have h2' : (!(S.veq a.vert b.vert)) = false := h2
    simp only [S.better, S.betterC, h, h2', if_true, Bool.false_eq_true, if_false]
end Go.Proofs.Ytoknhjmcoleejaa
