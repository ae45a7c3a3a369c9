/- Searching and comparing. No condition. -/
import Derived.Test.YtoknhjmcoleejaaFC
import Derived.Test.YtoknhjmcoleejaaGA
set_option linter.unusedVariables false
set_option linter.unusedSimpArgs false
namespace Go.Proofs.Ytoknhjmcoleejaa
open Go.RowKit
def lv68 : List (Nat × List Nat) := [(0, [0, 1]), (1, [0, 1, 5]), (2, [0, 1, 5, 9]), (3, [0, 1, 5]), (4, [0, 1, 5, 17]), (5, [4]), (6, [4]), (1000000, []), (1000001, [0, 1, 5])]
def lv54 : List (Nat × List Nat) := [(0, [0, 3]), (1, [4])]
def lv86 : List (Nat × List Nat) := [(0, [0, 3]), (1, [0, 3, 7, 8]), (2, [0, 3, 7, 8, 9]), (3, [0, 3, 5, 7, 8]), (4, [0, 3, 5, 7, 8, 16]), (5, [4]), (6, [0, 3, 7, 8]), (7, [4]), (1000000, []), (1000001, [0, 3, 7, 8])]




/-! ### Has -/
def S.has (xs : List Int) (x : Int) : Bool := (S.scan (fun i => xs.getD i.toNat 0 == x) xs.length 0).isSome
def hd68 : List HK := [.av 0 (.sl .int), .av 1 .int, .av 5 .int]
def lc68 : LS := mkLS hd68 (fun ((xs : List Int), (x : Int), (i : Int), _) => [decide (i = 0), S.okLen xs.length]) fun ((xs : List Int), (x : Int), (i : Int), _) =>
  .two (S.has xs x) .ret ⟨[(4, .v (.c (bo true)))], []⟩ (.exit 0) ⟨[], []⟩
noncomputable def c68 : Code := sub (bodyOf Try.f68) [1,0,1,0,0]
theorem lok68 : LoopOK Try.prog 18 c68 lc68 := by
  refine loop_ev (sig := []) (lcs := []) (lv := lv68) c68 (fun v => by kernel_rfl) sig_nil (no_loops (by kernel_rfl)) ?_
  rintro ⟨(xs : List Int), (x : Int), (i0 : Int), _⟩ hpre
  have hp : i0 = 0 ∧ S.okLen xs.length = true := by simpa using hpre
  obtain ⟨rfl, hl⟩ := hp
  have hl := okLen_r hl
  refine ⟨fun n u => u.1 = xs ∧ u.2.1 = x ∧ 0 ≤ (u.2.2.1 : Int) ∧ (u.2.2.1 : Int) + n = xs.length ∧ S.scan (fun i => xs.getD i.toNat 0 == x) n u.2.2.1 = S.scan (fun i => xs.getD i.toNat 0 == x) xs.length 0, xs.length, ⟨rfl, rfl, Int.le_refl 0, Int.zero_add _, rfl⟩, ?_⟩
  rintro Q hQ n ⟨(xs' : List Int), (x' : Int), (i : Int), _⟩ hI
  have hx : xs' = xs := hI.1
  have hx' : x' = x := hI.2.1
  have h0 : 0 ≤ i := hI.2.2.1
  have hn : i + n = xs.length := hI.2.2.2.1
  have hs : S.scan (fun i => xs.getD i.toNat 0 == x) n i = S.scan (fun i => xs.getD i.toNat 0 == x) xs.length 0 := hI.2.2.2.2
  have hQ1 : S.has xs x = true → _ := hQ.1
  have hQ2 : S.has xs x = false → _ := hQ.2
  unfold S.has at hQ1 hQ2
  generalize S.scan (fun i => xs.getD i.toNat 0 == x) xs.length 0 = res at hs hQ1 hQ2
  subst hx hx'
  clear hI
  suffices hnf : (decide (i < (↑xs'.length : Int)) = true → inb i xs'.length = true ∧ ((xs'.getD i.toNat (0 : Int) == x') = true → Q Exit.ret { s := [((4 : Nat), AV.v (V1.c (C.val (Value.bool true))))], b := [] : St }) ∧ ((xs'.getD i.toNat (0 : Int) == x') = false → ∃ n', n' < n ∧ xs' = xs' ∧ x' = x' ∧ (0 : Int) ≤ IntKind.i64.wrap (i + (1 : Int)) ∧ IntKind.i64.wrap (i + (1 : Int)) + (↑n' : Int) = (↑xs'.length : Int) ∧ S.scan (fun i => xs'.getD i.toNat (0 : Int) == x') n' (IntKind.i64.wrap (i + (1 : Int))) = res)) ∧ (decide (i < (↑xs'.length : Int)) = false → Q (Exit.exit (0 : Nat)) { s := [], b := [] : St }) by (apply nfto hnf; kernel_rfl)
  cases n with
  | zero =>
    have : ¬ i < xs'.length := by omega
    refine ⟨fun h => absurd (of_decide_eq_true h) this, fun _ => hQ2 (by rw [← hs]; rfl)⟩
  | succ n =>
    simp only [S.scan] at hs
    refine ⟨fun _ => ⟨by rw [inb_iff]; omega, fun h => ?_, fun h => ?_⟩, fun h => ?_⟩
    · rw [if_pos h] at hs
      exact hQ1 (by rw [← hs]; rfl)
    · rw [if_neg (by rw [h]; decide)] at hs
      have hw : IntKind.i64.wrap (i + 1) = i + 1 := wrap_id (by omega) (by omega)
      exact ⟨n, by omega, rfl, rfl, by rw [hw]; omega, by rw [hw]; omega, by rw [hw]; exact hs⟩
    · have : ¬ i < xs'.length := of_decide_eq_false h
      omega
def sm68 : Summary := mkSm [.sl .int, .int] (fun ((xs : List Int), _) => [S.okLen xs.length]) fun ((xs : List Int), (x : Int), _) => .fresh (.v (.c (bo (S.has xs x))))
theorem ok68 : SumOK Try.prog 68 sm68 := by
  refine sum_ev Try.f68 (lv := lv68) (lcs := [(2, lc68)]) (sig := []) (by kernel_rfl) ⟨by kernel_rfl, by kernel_rfl, by kernel_rfl⟩ sig_nil (one_loop (c := c68) (by kernel_rfl) lok68) ?_
  rintro ⟨(xs : List Int), (x : Int), _⟩ hpre
  have hp : S.okLen xs.length = true := by simpa using hpre
  suffices hnf : true = true ∧ S.okLen xs.length = true ∧ (S.has xs x = true → some (AV.v (V1.c (C.val (Value.bool true)))) = some (AV.v (V1.c (C.val (Value.bool (S.has xs x)))))) ∧ (S.has xs x = false → some (AV.v (V1.c (C.val (Value.bool false)))) = some (AV.v (V1.c (C.val (Value.bool (S.has xs x)))))) by (apply nfto hnf; kernel_rfl)
  refine ⟨rfl, hp, fun h => ?_, fun h => ?_⟩ <;> rw [h]
/-! ### Index, Contains of vertices -/
def S.veq (v w : Vert) : Bool := v.kind == w.kind && (v.id == w.id && true)
theorem veq_iff {v w : Vert} : S.veq v w = true ↔ v = w := by
  cases v; cases w; simp [S.veq]
def S.vidx (xs : List Vert) (v : Vert) : Option Int := S.scan (fun i => S.veq v (xs.getD i.toNat (zero .vert))) xs.length 0
def hd86 : List HK := [.av 0 (.sl .vert), .box 3 3 .vert 38, .av 7 .int, .av 8 .int]
def lc86 : LS := mkLS hd86 (fun ((xs : List Vert), (v : Vert), (n : Int), (i : Int), _) => [decide (i = 0), decide (n = xs.length), S.okLen xs.length]) fun ((xs : List Vert), (v : Vert), (n : Int), (i : Int), _) =>
  .two (S.vidx xs v).isSome .ret ⟨[(4, .v (.c (i64 ((S.vidx xs v).getD 0))))], []⟩ (.exit 0) ⟨[], []⟩
noncomputable def c86 : Code := sub (bodyOf Try.f86) [1,0,1,0,0]
theorem lok86 : LoopOK Try.prog 19 c86 lc86 := by
  refine loop_ev (sig := []) (lcs := []) (lv := lv86) c86 (fun v => by kernel_rfl) sig_nil (no_loops (by kernel_rfl)) ?_
  rintro ⟨(xs : List Vert), (v : Vert), (m : Int), (i0 : Int), _⟩ hpre
  have hp : i0 = 0 ∧ m = xs.length ∧ S.okLen xs.length = true := by simpa using hpre
  obtain ⟨rfl, rfl, hl⟩ := hp
  have hl := okLen_r hl
  refine ⟨fun n u => u.1 = xs ∧ u.2.1 = v ∧ u.2.2.1 = (xs.length : Int) ∧ 0 ≤ (u.2.2.2.1 : Int) ∧ (u.2.2.2.1 : Int) + n = xs.length ∧ S.scan (fun i => S.veq v (xs.getD i.toNat (zero .vert))) n u.2.2.2.1 = S.vidx xs v, xs.length, ⟨rfl, rfl, rfl, Int.le_refl 0, Int.zero_add _, rfl⟩, ?_⟩
  rintro Q hQ n ⟨(xs' : List Vert), (v' : Vert), (m : Int), (i : Int), _⟩ hI
  have hx : xs' = xs := hI.1
  have hx' : v' = v := hI.2.1
  have hm : m = xs.length := hI.2.2.1
  have h0 : 0 ≤ i := hI.2.2.2.1
  have hn : i + n = xs.length := hI.2.2.2.2.1
  have hs : S.scan (fun i => S.veq v (xs.getD i.toNat (zero .vert))) n i = S.vidx xs v := hI.2.2.2.2.2
  have hQ1 := hQ.1
  have hQ2 := hQ.2
  subst hx hx' hm
  clear hI
  generalize hr : S.vidx xs' v' = res at hs hQ1 hQ2
  suffices hnf : (decide (i < (↑xs'.length : Int)) = true → inb i xs'.length = true ∧ ((v'.kind == (xs'.getD i.toNat (zero K.vert)).kind && (v'.id == (xs'.getD i.toNat (zero K.vert)).id && true)) = true → Q Exit.ret { s := [((4 : Nat), AV.v (V1.c (C.val (Value.int IntKind.i64 i))))], b := [] : St }) ∧ ((v'.kind == (xs'.getD i.toNat (zero K.vert)).kind && (v'.id == (xs'.getD i.toNat (zero K.vert)).id && true)) = false → ∃ n', n' < n ∧ xs' = xs' ∧ v' = v' ∧ (↑xs'.length : Int) = (↑xs'.length : Int) ∧ (0 : Int) ≤ IntKind.i64.wrap (i + (1 : Int)) ∧ IntKind.i64.wrap (i + (1 : Int)) + (↑n' : Int) = (↑xs'.length : Int) ∧ S.scan (fun i => S.veq v' (xs'.getD i.toNat (zero K.vert))) n' (IntKind.i64.wrap (i + (1 : Int))) = res)) ∧ (decide (i < (↑xs'.length : Int)) = false → Q (Exit.exit (0 : Nat)) { s := [], b := [] : St }) by (apply nfto hnf; kernel_rfl)
  cases n with
  | zero =>
    have : ¬ i < xs'.length := by omega
    refine ⟨fun h => absurd (of_decide_eq_true h) this, fun _ => hQ2 (by rw [← hs]; rfl)⟩
  | succ n =>
    simp only [S.scan] at hs
    refine ⟨fun _ => ⟨by rw [inb_iff]; omega, fun h => ?_, fun h => ?_⟩, fun h => ?_⟩
    · rw [if_pos (show S.veq v' _ = true from h)] at hs
      have := hQ1 (by rw [← hs]; rfl)
      rw [← hs] at this
      exact this
    · rw [if_neg (by rw [show S.veq v' _ = false from h]; decide)] at hs
      have hw : IntKind.i64.wrap (i + 1) = i + 1 := wrap_id (by omega) (by omega)
      exact ⟨n, by omega, rfl, rfl, rfl, by rw [hw]; omega, by rw [hw]; omega, by rw [hw]; exact hs⟩
    · have : ¬ i < xs'.length := of_decide_eq_false h
      omega
def S.vindex (xs : List Vert) (v : Vert) : Int := (S.vidx xs v).getD (-1)
def sm86 : Summary := mkSm [.sl .vert, .vert] (fun ((xs : List Vert), _) => [S.okLen xs.length]) fun ((xs : List Vert), (v : Vert), _) => .fresh (.v (.c (i64 (S.vindex xs v))))
theorem ok86 : SumOK Try.prog 86 sm86 := by
  refine sum_ev Try.f86 (lv := lv86) (lcs := [(2, lc86)]) (sig := []) (by kernel_rfl) ⟨by kernel_rfl, by kernel_rfl, by kernel_rfl⟩ sig_nil (one_loop (c := c86) (by kernel_rfl) lok86) ?_
  rintro ⟨(xs : List Vert), (v : Vert), _⟩ hpre
  have hp : S.okLen xs.length = true := by simpa using hpre
  suffices hnf : true = true ∧ decide ((↑xs.length : Int) = (↑xs.length : Int)) = true ∧ S.okLen xs.length = true ∧ ((S.vidx xs v).isSome = true → some (AV.v (V1.c (C.val (Value.int IntKind.i64 ((S.vidx xs v).getD (0 : Int)))))) = some (AV.v (V1.c (C.val (Value.int IntKind.i64 (S.vindex xs v)))))) ∧ ((S.vidx xs v).isSome = false → some (AV.v (V1.c (C.val (Value.int IntKind.i64 (-1 : Int))))) = some (AV.v (V1.c (C.val (Value.int IntKind.i64 (S.vindex xs v)))))) by (apply nfto hnf; kernel_rfl)
  refine ⟨rfl, by simp, hp, ?_⟩
  unfold S.vindex
  cases S.vidx xs v <;> simp
def S.vhas (xs : List Vert) (v : Vert) : Bool := decide (0 ≤ S.vindex xs v)
def sg54 : List (Nat × Summary) := [(86, sm86)]
def sm54 : Summary := mkSm [.sl .vert, .vert] (fun ((xs : List Vert), _) => [S.okLen xs.length]) fun ((xs : List Vert), (v : Vert), _) => .fresh (.v (.c (bo (S.vhas xs v))))
theorem ok54 : SumOK Try.prog 54 sm54 := by
  refine sum_ev Try.f54 (lv := lv54) (lcs := []) (sig := sg54) (by kernel_rfl) ⟨by kernel_rfl, by kernel_rfl, by kernel_rfl⟩ (sig_cons ok86 sig_nil) (no_loops (by kernel_rfl)) ?_
  rintro ⟨(xs : List Vert), (v : Vert), _⟩ hpre
  have hp : S.okLen xs.length = true := by simpa using hpre
  suffices hnf : S.okLen xs.length = true ∧ some (AV.v (V1.c (C.val (Value.bool (decide (S.vindex xs v ≥ (0 : Int))))))) = some (AV.v (V1.c (C.val (Value.bool (S.vhas xs v))))) by (apply nfto hnf; kernel_rfl)
  exact ⟨hp, rfl⟩
end Go.Proofs.Ytoknhjmcoleejaa
