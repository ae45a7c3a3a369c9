/- A vertex's place in a tree; two trees compared. No condition. -/
import Derived.Test.YtoknhjmcoleejaaFC
import Derived.Test.YtoknhjmcoleejaaGN
set_option linter.unusedVariables false
set_option linter.unusedSimpArgs false
set_option maxHeartbeats 4000000
namespace Go.Proofs.Ytoknhjmcoleejaa
open Go.RowKit
def lv22 : List (Nat × List Nat) := [(0, [0, 3]), (1, [0, 3, 5]), (2, [0, 3, 5, 9]), (3, [0, 3, 5]), (4, [0, 3, 5, 18]), (5, [4]), (6, [4]), (1000000, []), (1000001, [0, 3, 5])]
def lv24 : List (Nat × List Nat) := [(0, [0, 1]), (1, [0, 1, 10]), (2, [4]), (3, [0, 1, 5]), (4, [0, 1, 5, 14]), (5, [0, 1, 5]), (6, [0, 1, 5, 25]), (7, [4]), (8, [4]), (1000000, []), (1000001, [0, 1, 5])]
def lv26 : List (Nat × List Nat) := [(0, [0, 3]), (1, [4])]
def lv60 : List (Nat × List Nat) := [(0, [0, 1]), (1, [0, 1, 7, 8]), (2, [0, 1, 7, 8, 9]), (3, [0, 1, 5, 7, 8]), (4, [0, 1, 5, 7, 8, 16]), (5, [4]), (6, [0, 1, 7, 8]), (7, [4]), (1000000, []), (1000001, [0, 1, 7, 8])]
def lv61 : List (Nat × List Nat) := [(0, [1, 2]), (1, [3])]
def S.placeAt (ts : List Node) (v : Vert) : Option Int := S.scan (fun i => S.veq (ts.getD i.toNat (zero .node)).vert v) ts.length 0
def S.place (ts : List Node) (v : Vert) : Int := (S.placeAt ts v).getD (-1)
def hd22 : List HK := [.av 0 (.sl .node), .box 3 3 .vert 38, .av 5 .int]
def lc22 : LS := mkLS hd22 (fun ((ts : List Node), (v : Vert), (i : Int), _) => [decide (i = 0), S.okLen ts.length]) fun ((ts : List Node), (v : Vert), (i : Int), _) =>
  .two (S.scan (fun i => S.veq (ts.getD i.toNat (zero .node)).vert v) (ts.length) 0).isSome .ret ⟨[(4, .v (.c (i64 ((S.scan (fun i => S.veq (ts.getD i.toNat (zero .node)).vert v) (ts.length) 0).getD 0))))], []⟩ (.exit 0) ⟨[], []⟩
noncomputable def c22 : Code := sub (bodyOf Try.f22) [1,0,1,0,0]
theorem lok22 : LoopOK Try.prog 20 c22 lc22 := by
  refine loop_ev (sig := []) (lcs := []) (lv := lv22) c22 (fun v => by kernel_rfl) sig_nil (no_loops (by kernel_rfl)) ?_
  rintro ⟨(ts : List Node), (v : Vert), (i0 : Int), _⟩ hpre
  have hp : i0 = 0 ∧ S.okLen ts.length = true := by simpa using hpre
  have hp0 := hp.1
  have hp1 := hp.2
  subst hp0
  have hl := okLen_r hp1
  clear hp hpre
  refine ⟨fun n u => u.1 = ts ∧ u.2.1 = v ∧ 0 ≤ (u.2.2.1 : Int) ∧ (u.2.2.1 : Int) + n = ((ts.length : Nat) : Int) ∧ S.scan (fun i => S.veq (ts.getD i.toNat (zero .node)).vert v) n u.2.2.1 = S.scan (fun i => S.veq (ts.getD i.toNat (zero .node)).vert v) (ts.length) 0, (ts.length) - (0 : Nat), ⟨rfl, rfl, Int.le_refl 0, by first | exact Int.zero_add _ | (show (0 : Int) + _ = _; omega), rfl⟩, ?_⟩
  rintro Q hQ n ⟨(ts' : List Node), (v' : Vert), (i' : Int), _⟩ hI
  have e0 : ts' = ts := hI.1
  have e1 : v' = v := hI.2.1
  have h0 : 0 ≤ i' := hI.2.2.1
  have hn : i' + n = ((ts.length : Nat) : Int) := hI.2.2.2.1
  have hs : S.scan (fun i => S.veq (ts.getD i.toNat (zero .node)).vert v) (n) i' = S.scan (fun i => S.veq (ts.getD i.toNat (zero .node)).vert v) (ts.length) 0 := hI.2.2.2.2
  subst e0
  subst e1
  have hQ1 := hQ.1
  have hQ2 := hQ.2
  clear hI hQ
  generalize S.scan (fun i => S.veq (ts'.getD i.toNat (zero .node)).vert v') (ts'.length) 0 = res at hs hQ1 hQ2
  suffices hnf : (decide (i' < (↑ts'.length : Int)) = true → inb i' ts'.length = true ∧ (((ts'.getD i'.toNat (zero K.node)).vert.kind == v'.kind && ((ts'.getD i'.toNat (zero K.node)).vert.id == v'.id && true)) = true → Q Exit.ret { s := [((4 : Nat), AV.v (V1.c (C.val (Value.int IntKind.i64 i'))))], b := [] : St }) ∧ (((ts'.getD i'.toNat (zero K.node)).vert.kind == v'.kind && ((ts'.getD i'.toNat (zero K.node)).vert.id == v'.id && true)) = false → ∃ n', n' < n ∧ ts' = ts' ∧ v' = v' ∧ (0 : Int) ≤ IntKind.i64.wrap (i' + (1 : Int)) ∧ IntKind.i64.wrap (i' + (1 : Int)) + (↑n' : Int) = (↑ts'.length : Int) ∧ S.scan (fun i => S.veq (ts'.getD i.toNat (zero K.node)).vert v') n' (IntKind.i64.wrap (i' + (1 : Int))) = res)) ∧ (decide (i' < (↑ts'.length : Int)) = false → Q (Exit.exit (0 : Nat)) { s := [], b := [] : St }) by (apply nfto hnf; kernel_rfl)
  cases n with
  | zero =>
    have hno : ¬ i' < ((ts'.length : Nat) : Int) := by omega
    exact ⟨fun h => absurd (of_decide_eq_true h) hno, fun _ => hQ2 (by rw [← hs]; rfl)⟩
  | succ n =>
    simp only [S.scan] at hs
    have hib : inb i' (ts'.length) = true := by rw [inb_iff]; omega
    have hw : IntKind.i64.wrap (i' + 1) = i' + 1 := wrap_id (by omega) (by omega)
    rw [hw]
    refine ⟨fun _ => ⟨hib, fun h => ?_, fun h => ?_⟩, fun h => ?_⟩
    · rw [if_pos (show S.veq _ _ = true from h)] at hs
      have := hQ1 (by rw [← hs]; rfl)
      rw [← hs] at this
      exact this
    · rw [if_neg (by rw [show S.veq _ _ = false from h]; decide)] at hs
      exact ⟨n, by omega, rfl, rfl, by omega, by omega, hs⟩
    · have := of_decide_eq_false h
      omega
def sm22 : Summary := mkSm [.sl .node, .vert] (fun ((ts : List Node), _) => [S.okLen ts.length]) fun ((ts : List Node), (v : Vert), _) => .fresh (.v (.c (i64 (S.place ts v))))
theorem ok22 : SumOK Try.prog 22 sm22 := by
  refine sum_ev Try.f22 (lv := lv22) (lcs := [(2, lc22)]) (sig := []) (by kernel_rfl) ⟨by kernel_rfl, by kernel_rfl, by kernel_rfl⟩ sig_nil (one_loop (c := c22) (by kernel_rfl) lok22) ?_
  rintro ⟨(ts : List Node), (v : Vert), _⟩ hpre
  have hp : S.okLen ts.length = true := by simpa using hpre
  suffices hnf : true = true ∧ S.okLen ts.length = true ∧ ((S.scan (fun i => S.veq (ts.getD i.toNat (zero K.node)).vert v) ts.length (0 : Int)).isSome = true → some (AV.v (V1.c (C.val (Value.int IntKind.i64 ((S.scan (fun i => S.veq (ts.getD i.toNat (zero K.node)).vert v) ts.length (0 : Int)).getD (0 : Int)))))) = some (AV.v (V1.c (C.val (Value.int IntKind.i64 (S.place ts v)))))) ∧ ((S.scan (fun i => S.veq (ts.getD i.toNat (zero K.node)).vert v) ts.length (0 : Int)).isSome = false → some (AV.v (V1.c (C.val (Value.int IntKind.i64 (-1 : Int))))) = some (AV.v (V1.c (C.val (Value.int IntKind.i64 (S.place ts v)))))) by (apply nfto hnf; kernel_rfl)
  refine ⟨rfl, hp, ?_⟩
  unfold S.place S.placeAt
  cases S.scan (fun i => S.veq (ts.getD i.toNat (zero .node)).vert v) ts.length 0 <;> simp
def sm61 : Summary := mkSm [.node, .rel .vert] (fun _ => []) fun ((x : Node), (v : Vert), _) => .fresh (.v (.c (bo (S.veq x.vert v))))
theorem ok61 : SumOK Try.prog 61 sm61 := by
  refine sum_ev Try.f61 (lv := lv61) (lcs := []) (sig := []) (by kernel_rfl) ⟨by kernel_rfl, by kernel_rfl, by kernel_rfl⟩ sig_nil (no_loops (by kernel_rfl)) ?_
  rintro ⟨(x : Node), (v : Vert), _⟩ hpre
  suffices hnf : some (AV.v (V1.c (C.val (Value.bool (x.vert.kind == v.kind && (x.vert.id == v.id && true)))))) = some (AV.v (V1.c (C.val (Value.bool (S.veq x.vert v))))) by (apply nfto hnf; kernel_rfl)
  rfl
def sg60 : List (Nat × Summary) := [(61, sm61)]
def hd60 : List HK := [.av 0 (.sl .node), .av 1 (.fn1 61 .vert), .av 7 .int, .av 8 .int]
def lc60 : LS := mkLS hd60 (fun ((ts : List Node), (v : Vert), (m : Int), (i : Int), _) => [decide (i = 0), decide (m = ts.length), S.okLen ts.length]) fun ((ts : List Node), (v : Vert), (m : Int), (i : Int), _) =>
  .two (S.scan (fun i => S.veq (ts.getD i.toNat (zero .node)).vert v) (ts.length) 0).isSome .ret ⟨[(4, .v (.c (i64 ((S.scan (fun i => S.veq (ts.getD i.toNat (zero .node)).vert v) (ts.length) 0).getD 0))))], []⟩ (.exit 0) ⟨[], []⟩
noncomputable def c60 : Code := sub (bodyOf Try.f60) [1,0,1,0,0]
theorem lok60 : LoopOK Try.prog 19 c60 lc60 := by
  refine loop_ev (sig := sg60) (lcs := []) (lv := lv60) c60 (fun v => by kernel_rfl) (sig_cons ok61 sig_nil) (no_loops (by kernel_rfl)) ?_
  rintro ⟨(ts : List Node), (v : Vert), (m0 : Int), (i0 : Int), _⟩ hpre
  have hp : i0 = 0 ∧ m0 = ts.length ∧ S.okLen ts.length = true := by simpa using hpre
  have hp0 := hp.1
  have hp1 := hp.2.1
  have hp2 := hp.2.2
  subst hp0
  subst hp1
  have hl := okLen_r hp2
  clear hp hpre
  refine ⟨fun n u => u.1 = ts ∧ u.2.1 = v ∧ (u.2.2.1 : Int) = ts.length ∧ 0 ≤ (u.2.2.2.1 : Int) ∧ (u.2.2.2.1 : Int) + n = ((ts.length : Nat) : Int) ∧ S.scan (fun i => S.veq (ts.getD i.toNat (zero .node)).vert v) n u.2.2.2.1 = S.scan (fun i => S.veq (ts.getD i.toNat (zero .node)).vert v) (ts.length) 0, (ts.length) - (0 : Nat), ⟨rfl, rfl, rfl, Int.le_refl 0, by first | exact Int.zero_add _ | (show (0 : Int) + _ = _; omega), rfl⟩, ?_⟩
  rintro Q hQ n ⟨(ts' : List Node), (v' : Vert), (m' : Int), (i' : Int), _⟩ hI
  have e0 : ts' = ts := hI.1
  have e1 : v' = v := hI.2.1
  have e2 : m' = ts.length := hI.2.2.1
  have h0 : 0 ≤ i' := hI.2.2.2.1
  have hn : i' + n = ((ts.length : Nat) : Int) := hI.2.2.2.2.1
  have hs : S.scan (fun i => S.veq (ts.getD i.toNat (zero .node)).vert v) (n) i' = S.scan (fun i => S.veq (ts.getD i.toNat (zero .node)).vert v) (ts.length) 0 := hI.2.2.2.2.2
  subst e0
  subst e1
  subst e2
  have hQ1 := hQ.1
  have hQ2 := hQ.2
  clear hI hQ
  generalize S.scan (fun i => S.veq (ts'.getD i.toNat (zero .node)).vert v') (ts'.length) 0 = res at hs hQ1 hQ2
  suffices hnf : (decide (i' < (↑ts'.length : Int)) = true → inb i' ts'.length = true ∧ (S.veq (ts'.getD i'.toNat (zero K.node)).vert v' = true → Q Exit.ret { s := [((4 : Nat), AV.v (V1.c (C.val (Value.int IntKind.i64 i'))))], b := [] : St }) ∧ (S.veq (ts'.getD i'.toNat (zero K.node)).vert v' = false → ∃ n', n' < n ∧ ts' = ts' ∧ v' = v' ∧ (↑ts'.length : Int) = (↑ts'.length : Int) ∧ (0 : Int) ≤ IntKind.i64.wrap (i' + (1 : Int)) ∧ IntKind.i64.wrap (i' + (1 : Int)) + (↑n' : Int) = (↑ts'.length : Int) ∧ S.scan (fun i => S.veq (ts'.getD i.toNat (zero K.node)).vert v') n' (IntKind.i64.wrap (i' + (1 : Int))) = res)) ∧ (decide (i' < (↑ts'.length : Int)) = false → Q (Exit.exit (0 : Nat)) { s := [], b := [] : St }) by (apply nfto hnf; kernel_rfl)
  cases n with
  | zero =>
    have hno : ¬ i' < ((ts'.length : Nat) : Int) := by omega
    exact ⟨fun h => absurd (of_decide_eq_true h) hno, fun _ => hQ2 (by rw [← hs]; rfl)⟩
  | succ n =>
    simp only [S.scan] at hs
    have hib : inb i' (ts'.length) = true := by rw [inb_iff]; omega
    have hw : IntKind.i64.wrap (i' + 1) = i' + 1 := wrap_id (by omega) (by omega)
    rw [hw]
    refine ⟨fun _ => ⟨hib, fun h => ?_, fun h => ?_⟩, fun h => ?_⟩
    · rw [if_pos (show S.veq _ _ = true from h)] at hs
      have := hQ1 (by rw [← hs]; rfl)
      rw [← hs] at this
      exact this
    · rw [if_neg (by rw [show S.veq _ _ = false from h]; decide)] at hs
      exact ⟨n, by omega, rfl, rfl, rfl, by omega, by omega, hs⟩
    · have := of_decide_eq_false h
      omega
def sm60 : Summary := mkSm [.sl .node, .fn1 61 .vert] (fun ((ts : List Node), _) => [S.okLen ts.length]) fun ((ts : List Node), (v : Vert), _) => .fresh (.v (.c (i64 (S.place ts v))))
theorem ok60 : SumOK Try.prog 60 sm60 := by
  refine sum_ev Try.f60 (lv := lv60) (lcs := [(2, lc60)]) (sig := []) (by kernel_rfl) ⟨by kernel_rfl, by kernel_rfl, by kernel_rfl⟩ sig_nil (one_loop (c := c60) (by kernel_rfl) lok60) ?_
  rintro ⟨(ts : List Node), (v : Vert), _⟩ hpre
  have hp : S.okLen ts.length = true := by simpa using hpre
  suffices hnf : true = true ∧ decide ((↑ts.length : Int) = (↑ts.length : Int)) = true ∧ S.okLen ts.length = true ∧ ((S.scan (fun i => S.veq (ts.getD i.toNat (zero K.node)).vert v) ts.length (0 : Int)).isSome = true → some (AV.v (V1.c (C.val (Value.int IntKind.i64 ((S.scan (fun i => S.veq (ts.getD i.toNat (zero K.node)).vert v) ts.length (0 : Int)).getD (0 : Int)))))) = some (AV.v (V1.c (C.val (Value.int IntKind.i64 (S.place ts v)))))) ∧ ((S.scan (fun i => S.veq (ts.getD i.toNat (zero K.node)).vert v) ts.length (0 : Int)).isSome = false → some (AV.v (V1.c (C.val (Value.int IntKind.i64 (-1 : Int))))) = some (AV.v (V1.c (C.val (Value.int IntKind.i64 (S.place ts v)))))) by (apply nfto hnf; kernel_rfl)
  refine ⟨rfl, by simp, hp, ?_⟩
  unfold S.place S.placeAt
  cases S.scan (fun i => S.veq (ts.getD i.toNat (zero .node)).vert v) ts.length 0 <;> simp
def sm26 : Summary := mkSm [.sl .node, .vert] (fun ((ts : List Node), _) => [S.okLen ts.length]) fun ((ts : List Node), (v : Vert), _) => .fresh (.v (.c (i64 (S.place ts v))))
def sg26 : List (Nat × Summary) := [(60, sm60)]
theorem ok26 : SumOK Try.prog 26 sm26 := by
  refine sum_ev Try.f26 (lv := lv26) (lcs := []) (sig := sg26) (by kernel_rfl) ⟨by kernel_rfl, by kernel_rfl, by kernel_rfl⟩ (sig_cons ok60 sig_nil) (no_loops (by kernel_rfl)) ?_
  rintro ⟨(ts : List Node), (v : Vert), _⟩ hpre
  have hp : S.okLen ts.length = true := by simpa using hpre
  suffices hnf : S.okLen ts.length = true ∧ some (AV.v (V1.c (C.val (Value.int IntKind.i64 (S.place ts v))))) = some (AV.v (V1.c (C.val (Value.int IntKind.i64 (S.place ts v))))) by (apply nfto hnf; kernel_rfl)
  exact ⟨hp, rfl⟩
def S.neqN (a b : Node) : Bool := !(a.vert.kind == b.vert.kind && (a.vert.id == b.vert.id && (a.parent == b.parent && (a.cost == b.cost && (a.data == b.data && true)))))
def S.nodesAt (xs ys : List Node) : Option Int := S.scan (fun i => S.neqN (xs.getD i.toNat (zero .node)) (ys.getD i.toNat (zero .node))) xs.length 0
def S.nodes (xs ys : List Node) : Bool := if decide ((xs.length : Int) = ys.length) then !(S.nodesAt xs ys).isSome else false
def hd24 : List HK := [.av 0 (.sl .node), .av 1 (.sl .node), .av 5 .int]
def lc24 : LS := mkLS hd24 (fun ((xs : List Node), (ys : List Node), (i : Int), _) => [decide (i = 0), S.okLen xs.length, decide (xs.length = ys.length)]) fun ((xs : List Node), (ys : List Node), (i : Int), _) =>
  .two (S.scan (fun i => S.neqN (xs.getD i.toNat (zero .node)) (ys.getD i.toNat (zero .node))) (xs.length) 0).isSome .ret ⟨[(4, .v (.c (bo false)))], []⟩ (.exit 0) ⟨[], []⟩
noncomputable def c24 : Code := sub (bodyOf Try.f24) [1,1,0,1,0,0]
theorem lok24 : LoopOK Try.prog 26 c24 lc24 := by
  refine loop_ev (sig := []) (lcs := []) (lv := lv24) c24 (fun v => by kernel_rfl) sig_nil (no_loops (by kernel_rfl)) ?_
  rintro ⟨(xs : List Node), (ys : List Node), (i0 : Int), _⟩ hpre
  have hp : i0 = 0 ∧ S.okLen xs.length = true ∧ xs.length = ys.length := by simpa using hpre
  have hp0 := hp.1
  have hp1 := hp.2.1
  have hp2 := hp.2.2
  subst hp0
  have hl := okLen_r hp1
  clear hp hpre
  refine ⟨fun n u => u.1 = xs ∧ u.2.1 = ys ∧ 0 ≤ (u.2.2.1 : Int) ∧ (u.2.2.1 : Int) + n = ((xs.length : Nat) : Int) ∧ S.scan (fun i => S.neqN (xs.getD i.toNat (zero .node)) (ys.getD i.toNat (zero .node))) n u.2.2.1 = S.scan (fun i => S.neqN (xs.getD i.toNat (zero .node)) (ys.getD i.toNat (zero .node))) (xs.length) 0, (xs.length) - (0 : Nat), ⟨rfl, rfl, Int.le_refl 0, by first | exact Int.zero_add _ | (show (0 : Int) + _ = _; omega), rfl⟩, ?_⟩
  rintro Q hQ n ⟨(xs' : List Node), (ys' : List Node), (i' : Int), _⟩ hI
  have e0 : xs' = xs := hI.1
  have e1 : ys' = ys := hI.2.1
  have h0 : 0 ≤ i' := hI.2.2.1
  have hn : i' + n = ((xs.length : Nat) : Int) := hI.2.2.2.1
  have hs : S.scan (fun i => S.neqN (xs.getD i.toNat (zero .node)) (ys.getD i.toNat (zero .node))) (n) i' = S.scan (fun i => S.neqN (xs.getD i.toNat (zero .node)) (ys.getD i.toNat (zero .node))) (xs.length) 0 := hI.2.2.2.2
  subst e0
  subst e1
  have hQ1 := hQ.1
  have hQ2 := hQ.2
  clear hI hQ
  generalize S.scan (fun i => S.neqN (xs'.getD i.toNat (zero .node)) (ys'.getD i.toNat (zero .node))) (xs'.length) 0 = res at hs hQ1 hQ2
  suffices hnf : (decide (i' < (↑xs'.length : Int)) = true → inb i' xs'.length = true ∧ inb i' ys'.length = true ∧ ((!((xs'.getD i'.toNat (zero K.node)).vert.kind == (ys'.getD i'.toNat (zero K.node)).vert.kind && ((xs'.getD i'.toNat (zero K.node)).vert.id == (ys'.getD i'.toNat (zero K.node)).vert.id && ((xs'.getD i'.toNat (zero K.node)).parent == (ys'.getD i'.toNat (zero K.node)).parent && ((xs'.getD i'.toNat (zero K.node)).cost == (ys'.getD i'.toNat (zero K.node)).cost && ((xs'.getD i'.toNat (zero K.node)).data == (ys'.getD i'.toNat (zero K.node)).data && true)))))) = true → Q Exit.ret { s := [((4 : Nat), AV.v (V1.c (C.val (Value.bool false))))], b := [] : St }) ∧ ((!((xs'.getD i'.toNat (zero K.node)).vert.kind == (ys'.getD i'.toNat (zero K.node)).vert.kind && ((xs'.getD i'.toNat (zero K.node)).vert.id == (ys'.getD i'.toNat (zero K.node)).vert.id && ((xs'.getD i'.toNat (zero K.node)).parent == (ys'.getD i'.toNat (zero K.node)).parent && ((xs'.getD i'.toNat (zero K.node)).cost == (ys'.getD i'.toNat (zero K.node)).cost && ((xs'.getD i'.toNat (zero K.node)).data == (ys'.getD i'.toNat (zero K.node)).data && true)))))) = false → ∃ n', n' < n ∧ xs' = xs' ∧ ys' = ys' ∧ (0 : Int) ≤ IntKind.i64.wrap (i' + (1 : Int)) ∧ IntKind.i64.wrap (i' + (1 : Int)) + (↑n' : Int) = (↑xs'.length : Int) ∧ S.scan (fun i => S.neqN (xs'.getD i.toNat (zero K.node)) (ys'.getD i.toNat (zero K.node))) n' (IntKind.i64.wrap (i' + (1 : Int))) = res)) ∧ (decide (i' < (↑xs'.length : Int)) = false → Q (Exit.exit (0 : Nat)) { s := [], b := [] : St }) by (apply nfto hnf; kernel_rfl)
  cases n with
  | zero =>
    have hno : ¬ i' < ((xs'.length : Nat) : Int) := by omega
    exact ⟨fun h => absurd (of_decide_eq_true h) hno, fun _ => hQ2 (by rw [← hs]; rfl)⟩
  | succ n =>
    simp only [S.scan] at hs
    have hib : inb i' (xs'.length) = true := by rw [inb_iff]; omega
    have hib2 : inb i' ys'.length = true := by rw [← hp2]; exact hib
    have hw : IntKind.i64.wrap (i' + 1) = i' + 1 := wrap_id (by omega) (by omega)
    rw [hw]
    refine ⟨fun _ => ⟨hib, hib2, fun h => ?_, fun h => ?_⟩, fun h => ?_⟩
    · rw [if_pos (show S.neqN _ _ = true from h)] at hs
      have := hQ1 (by rw [← hs]; rfl)
      exact this
    · rw [if_neg (by rw [show S.neqN _ _ = false from h]; decide)] at hs
      exact ⟨n, by omega, rfl, rfl, by omega, by omega, hs⟩
    · have := of_decide_eq_false h
      omega
def sm24 : Summary := mkSm [.sl .node, .sl .node] (fun ((xs : List Node), (ys : List Node), _) => [S.okLen xs.length]) fun ((xs : List Node), (ys : List Node), _) => .fresh (.v (.c (bo (S.nodes xs ys))))
theorem ok24 : SumOK Try.prog 24 sm24 := by
  refine sum_ev Try.f24 (lv := lv24) (lcs := [(4, lc24)]) (sig := []) (by kernel_rfl) ⟨by kernel_rfl, by kernel_rfl, by kernel_rfl⟩ sig_nil (one_loop (c := c24) (by kernel_rfl) lok24) ?_
  rintro ⟨(xs : List Node), (ys : List Node), _⟩ hpre
  have hp : S.okLen xs.length = true := by simpa using hpre
  suffices hnf : (((↑xs.length : Int) != (↑ys.length : Int)) = true → some (AV.v (V1.c (C.val (Value.bool false)))) = some (AV.v (V1.c (C.val (Value.bool (S.nodes xs ys)))))) ∧ (((↑xs.length : Int) != (↑ys.length : Int)) = false → true = true ∧ S.okLen xs.length = true ∧ decide (xs.length = ys.length) = true ∧ ((S.scan (fun i => S.neqN (xs.getD i.toNat (zero K.node)) (ys.getD i.toNat (zero K.node))) xs.length (0 : Int)).isSome = true → some (AV.v (V1.c (C.val (Value.bool false)))) = some (AV.v (V1.c (C.val (Value.bool (S.nodes xs ys)))))) ∧ ((S.scan (fun i => S.neqN (xs.getD i.toNat (zero K.node)) (ys.getD i.toNat (zero K.node))) xs.length (0 : Int)).isSome = false → some (AV.v (V1.c (C.val (Value.bool true)))) = some (AV.v (V1.c (C.val (Value.bool (S.nodes xs ys))))))) by (apply nfto hnf; kernel_rfl)
  refine ⟨fun h => ?_, fun h => ?_⟩
  · have h' : ¬ (xs.length : Int) = ys.length := by simpa using h
    rw [S.nodes, if_neg (by simpa using h')]
  · have h' : (xs.length : Int) = ys.length := by simpa using h
    have e : S.nodes xs ys = !(S.nodesAt xs ys).isSome := by rw [S.nodes, if_pos (by simpa using h')]
    refine ⟨rfl, hp, decide_eq_true (by omega), fun h2 => ?_, fun h2 => ?_⟩
    · rw [e, show (S.nodesAt xs ys).isSome = true from h2]; rfl
    · rw [e, show (S.nodesAt xs ys).isSome = false from h2]; rfl

end Go.Proofs.Ytoknhjmcoleejaa
