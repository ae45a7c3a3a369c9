/- Small functions: numbers, comparing. No condition. -/
import Derived.Test.YtoknhjmcoleejaaFC
set_option linter.unusedVariables false
set_option linter.unusedSimpArgs false
namespace Go.Proofs.Ytoknhjmcoleejaa
open Go.RowKit
def lv36 : List (Nat × List Nat) := [(0, [0]), (1, [3]), (2, [2])]
def lv38 : List (Nat × List Nat) := [(0, [0, 1]), (1, [4])]
def lv53 : List (Nat × List Nat) := [(0, [0]), (1, [0, 3]), (2, [0, 3, 5]), (3, [0, 3]), (4, [0, 3, 11]), (5, [2]), (6, [2]), (1000000, []), (1000001, [0, 3])]



def lv76 : List (Nat × List Nat) := [(0, [0, 1]), (1, [0, 1, 5]), (2, [0, 1, 5, 6]), (3, [0, 1, 6, 11]), (4, [12]), (5, [4]), (6, [4]), (7, [0, 1, 13]), (8, [4]), (9, [0, 1, 16]), (10, [4]), (11, [19]), (12, [4]), (13, [4])]


def lv95 : List (Nat × List Nat) := [(0, [0]), (1, [2])]


/-! ### scanning -/
def S.scan (p : Int → Bool) : Nat → Int → Option Int
  | 0, _ => none
  | n + 1, i => if p i then some i else S.scan p n (i + 1)
theorem scan_some {p : Int → Bool} : ∀ {n : Nat} {i j : Int}, S.scan p n i = some j → i ≤ j ∧ j < i + n ∧ p j = true ∧ ∀ k, i ≤ k → k < j → p k = false
  | 0, i, j, h => by cases h
  | n + 1, i, j, h => by
    simp only [S.scan] at h
    by_cases hp : p i = true
    · rw [if_pos hp] at h
      obtain rfl := Option.some.inj h
      exact ⟨by omega, by omega, hp, fun k h1 h2 => by omega⟩
    · rw [if_neg hp] at h
      obtain ⟨h1, h2, h3, h4⟩ := scan_some h
      refine ⟨by omega, by omega, h3, fun k q1 q2 => ?_⟩
      by_cases e : k = i
      · subst e; simpa using hp
      · exact h4 k (by omega) q2
theorem scan_none {p : Int → Bool} : ∀ {n : Nat} {i : Int}, S.scan p n i = none → ∀ k, i ≤ k → k < i + n → p k = false
  | 0, i, h => fun k h1 h2 => by omega
  | n + 1, i, h => by
    simp only [S.scan] at h
    by_cases hp : p i = true
    · rw [if_pos hp] at h; cases h
    · rw [if_neg hp] at h
      intro k h1 h2
      by_cases e : k = i
      · subst e; simpa using hp
      · exact scan_none h k (by omega) (by omega)
theorem wrap_id {x : Int} (h1 : -9223372036854775808 ≤ x) (h2 : x < 9223372036854775808) : IntKind.i64.wrap x = x := by
  unfold IntKind.wrap
  simp [IntKind.bits, IntKind.signed]
  omega
theorem wrap_u64 (x : Int) : 0 ≤ IntKind.u64.wrap x := by
  unfold IntKind.wrap
  simp [IntKind.bits, IntKind.signed]
  omega
def S.okLen (n : Nat) : Bool := decide (n < 4611686018427387904)
theorem okLen_r {n : Nat} (h : S.okLen n = true) : (n : Int) < 4611686018427387904 := by
  simp only [S.okLen, decide_eq_true_eq] at h; omega
/-! ### the functions -/
def sm95 : Summary := mkSm [.int] (fun _ => []) fun ((x : Int), _) => .fresh (.v (.c (bo false)))
theorem ok95 : SumOK Try.prog 95 sm95 := by
  refine sum_ev Try.f95 (lv := lv95) (lcs := []) (by kernel_rfl) ⟨by kernel_rfl, by kernel_rfl, by kernel_rfl⟩ sig_nil (no_loops (by kernel_rfl)) ?_
  rintro ⟨(x : Int), _⟩ hpre
  suffices hnf : some (AV.v (V1.c (C.val (Value.bool (x != x))))) = some (AV.v (V1.c (C.val (Value.bool false)))) by (apply nfto hnf; kernel_rfl)
  simp
def S.mask (x : Int) : Int := IntKind.i64.wrap (BitVec.ofInt 64 (IntKind.i64.wrap (4294967295 * 2 ^ min (IntKind.u64.wrap (IntKind.i64.wrap (32 - if (if 32 < x then 32 else x) > 0 then if 32 < x then 32 else x else 0))).toNat 64)) &&& BitVec.ofInt 64 4294967295).toNat
def sm36 : Summary := mkSm [.int] (fun _ => []) fun ((x : Int), _) => .fresh (.v (.c (i64 (S.mask x))))
theorem ok36 : SumOK Try.prog 36 sm36 := by
  refine sum_ev Try.f36 (lv := lv36) (lcs := []) (by kernel_rfl) ⟨by kernel_rfl, by kernel_rfl, by kernel_rfl⟩ sig_nil (no_loops (by kernel_rfl)) ?_
  rintro ⟨(x : Int), _⟩ hpre
  suffices hnf : decide ((0 : Int) ≤ IntKind.u64.wrap (IntKind.i64.wrap ((32 : Int) - if (if (32 : Int) < x then (32 : Int) else x) > (0 : Int) then if (32 : Int) < x then (32 : Int) else x else (0 : Int)))) = true ∧ some (AV.v (V1.c (C.val (Value.int IntKind.i64 (IntKind.i64.wrap (↑(BitVec.ofInt (64 : Nat) (IntKind.i64.wrap ((4294967295 : Int) * (2 : Int) ^ min (IntKind.u64.wrap (IntKind.i64.wrap ((32 : Int) - if (if (32 : Int) < x then (32 : Int) else x) > (0 : Int) then if (32 : Int) < x then (32 : Int) else x else (0 : Int)))).toNat (64 : Nat))) &&& BitVec.ofInt (64 : Nat) (4294967295 : Int)).toNat : Int)))))) = some (AV.v (V1.c (C.val (Value.int IntKind.i64 (S.mask x))))) by (apply nfto hnf; kernel_rfl)
  exact ⟨by simpa using wrap_u64 _, rfl⟩
def S.net (x y : Int) : Int := IntKind.i64.wrap (BitVec.ofInt 64 (IntKind.i64.wrap (BitVec.ofInt 64 x &&& BitVec.ofInt 64 4294967295).toNat) &&& BitVec.ofInt 64 (S.mask y)).toNat
def sg38 : List (Nat × Summary) := [(36, sm36)]
def sm38 : Summary := mkSm [.int, .int] (fun _ => []) fun ((x : Int), (y : Int), _) => .fresh (.v (.c (i64 (S.net x y))))
theorem ok38 : SumOK Try.prog 38 sm38 := by
  refine sum_ev Try.f38 (lv := lv38) (lcs := []) (sig := sg38) (by kernel_rfl) ⟨by kernel_rfl, by kernel_rfl, by kernel_rfl⟩ (sig_cons ok36 sig_nil) (no_loops (by kernel_rfl)) ?_
  rintro ⟨(x : Int), (y : Int), _⟩ hpre
  suffices hnf : some (AV.v (V1.c (C.val (Value.int IntKind.i64 (IntKind.i64.wrap (↑(BitVec.ofInt (64 : Nat) (IntKind.i64.wrap (↑(BitVec.ofInt (64 : Nat) x &&& BitVec.ofInt (64 : Nat) (4294967295 : Int)).toNat : Int)) &&& BitVec.ofInt (64 : Nat) (S.mask y)).toNat : Int)))))) = some (AV.v (V1.c (C.val (Value.int IntKind.i64 (S.net x y))))) by (apply nfto hnf; kernel_rfl)
  rfl
def S.cmp (x y : Int) : Int := if x < y then -1 else if y < x then 1 else 0
def sg76 : List (Nat × Summary) := [(95, sm95)]
def sm76 : Summary := mkSm [.int, .int] (fun _ => []) fun ((x : Int), (y : Int), _) => .fresh (.v (.c (i64 (S.cmp x y))))
theorem ok76 : SumOK Try.prog 76 sm76 := by
  refine sum_ev Try.f76 (lv := lv76) (lcs := []) (sig := sg76) (by kernel_rfl) ⟨by kernel_rfl, by kernel_rfl, by kernel_rfl⟩ (sig_cons ok95 sig_nil) (no_loops (by kernel_rfl)) ?_
  rintro ⟨(x : Int), (y : Int), _⟩ hpre
  suffices hnf : (false = true → (false = true → some (AV.v (V1.c (C.val (Value.int IntKind.i64 (0 : Int))))) = some (AV.v (V1.c (C.val (Value.int IntKind.i64 (S.cmp x y)))))) ∧ (false = false → some (AV.v (V1.c (C.val (Value.int IntKind.i64 (-1 : Int))))) = some (AV.v (V1.c (C.val (Value.int IntKind.i64 (S.cmp x y))))))) ∧ (false = false → (false = true → some (AV.v (V1.c (C.val (Value.int IntKind.i64 (1 : Int))))) = some (AV.v (V1.c (C.val (Value.int IntKind.i64 (S.cmp x y)))))) ∧ (false = false → (decide (x < y) = true → some (AV.v (V1.c (C.val (Value.int IntKind.i64 (-1 : Int))))) = some (AV.v (V1.c (C.val (Value.int IntKind.i64 (S.cmp x y)))))) ∧ (decide (x < y) = false → (decide (x > y) = true → some (AV.v (V1.c (C.val (Value.int IntKind.i64 (1 : Int))))) = some (AV.v (V1.c (C.val (Value.int IntKind.i64 (S.cmp x y)))))) ∧ (decide (x > y) = false → some (AV.v (V1.c (C.val (Value.int IntKind.i64 (0 : Int))))) = some (AV.v (V1.c (C.val (Value.int IntKind.i64 (S.cmp x y))))))))) by (apply nfto hnf; kernel_rfl)
  unfold S.cmp
  by_cases h1 : x < y <;> by_cases h2 : y < x <;> simp [h1, h2]
/-! ### Bits -/
def S.bits (x : Int) : Int := (S.scan (fun i => S.mask i == x) 33 0).getD (-1)
def hd53 : List HK := [.av 0 .int, .av 3 .int]
def lc53 : LS := mkLS hd53 (fun ((x : Int), (i : Int), _) => [decide (i = 0)]) fun ((x : Int), (i : Int), _) => .two (S.scan (fun i => S.mask i == x) 33 0).isSome .ret ⟨[(2, .v (.c (i64 ((S.scan (fun i => S.mask i == x) 33 0).getD 0))))], []⟩ (.exit 0) ⟨[], []⟩
noncomputable def c53 : Code := sub (bodyOf Try.f53) [1,0,1,0,0]
def sg53 : List (Nat × Summary) := [(36, sm36)]
theorem lok53 : LoopOK Try.prog 13 c53 lc53 := by
  refine loop_ev (sig := sg53) (lcs := []) (lv := lv53) c53 (fun v => by kernel_rfl) (sig_cons ok36 sig_nil) (no_loops (by kernel_rfl)) ?_
  rintro ⟨(x : Int), (i0 : Int), _⟩ hpre
  have hi0 : i0 = 0 := by simpa using hpre
  subst hi0
  refine ⟨fun n u => u.1 = x ∧ 0 ≤ (u.2.1 : Int) ∧ (u.2.1 : Int) + n = 33 ∧ S.scan (fun i => S.mask i == x) n u.2.1 = S.scan (fun i => S.mask i == x) 33 0, 33, ⟨rfl, Int.le_refl 0, rfl, rfl⟩, ?_⟩
  rintro Q hQ n ⟨(x' : Int), (i : Int), _⟩ hI
  have hx : x' = x := hI.1
  have h0 : 0 ≤ i := hI.2.1
  have hn : i + n = 33 := hI.2.2.1
  have hs : S.scan (fun i => S.mask i == x) n i = S.scan (fun i => S.mask i == x) 33 0 := hI.2.2.2
  have hQ1 := hQ.1
  have hQ2 := hQ.2
  generalize S.scan (fun i => S.mask i == x) 33 0 = res at hs hQ1 hQ2
  subst hx
  clear hI
  suffices hnf : (decide (i ≤ (32 : Int)) = true → ((S.mask i == x') = true → Q Exit.ret { s := [((2 : Nat), AV.v (V1.c (C.val (Value.int IntKind.i64 i))))], b := [] : St }) ∧ ((S.mask i == x') = false → ∃ n', n' < n ∧ x' = x' ∧ (0 : Int) ≤ IntKind.i64.wrap (i + (1 : Int)) ∧ IntKind.i64.wrap (i + (1 : Int)) + (↑n' : Int) = (33 : Int) ∧ S.scan (fun i => S.mask i == x') n' (IntKind.i64.wrap (i + (1 : Int))) = res)) ∧ (decide (i ≤ (32 : Int)) = false → Q (Exit.exit (0 : Nat)) { s := [], b := [] : St }) by (apply nfto hnf; kernel_rfl)
  cases n with
  | zero =>
    have : ¬ i ≤ 32 := by omega
    refine ⟨fun h => absurd (of_decide_eq_true h) this, fun _ => hQ2 (by rw [← hs]; rfl)⟩
  | succ n =>
    simp only [S.scan] at hs
    refine ⟨fun _ => ⟨fun h => ?_, fun h => ?_⟩, fun h => ?_⟩
    · rw [if_pos h] at hs
      have := hQ1 (by rw [← hs]; rfl)
      rw [← hs] at this
      exact this
    · rw [if_neg (by rw [h]; decide)] at hs
      refine ⟨n, by omega, rfl, ?_, ?_, ?_⟩
      · show 0 ≤ IntKind.i64.wrap (i + 1)
        rw [wrap_id (by omega) (by omega)]; omega
      · show IntKind.i64.wrap (i + 1) + (n : Int) = 33
        rw [wrap_id (by omega) (by omega)]; omega
      · show S.scan _ n (IntKind.i64.wrap (i + 1)) = _
        rw [wrap_id (by omega) (by omega)]; exact hs
    · have : ¬ i ≤ 32 := of_decide_eq_false h
      omega
def sm53 : Summary := mkSm [.int] (fun _ => []) fun ((x : Int), _) => .fresh (.v (.c (i64 (S.bits x))))
theorem ok53 : SumOK Try.prog 53 sm53 := by
  refine sum_ev Try.f53 (lv := lv53) (lcs := [(2, lc53)]) (sig := sg53) (by kernel_rfl) ⟨by kernel_rfl, by kernel_rfl, by kernel_rfl⟩ (sig_cons ok36 sig_nil) (one_loop (c := c53) (by kernel_rfl) lok53) ?_
  rintro ⟨(x : Int), _⟩ hpre
  suffices hnf : true = true ∧ ((S.scan (fun i => S.mask i == x) (33 : Nat) (0 : Int)).isSome = true → some (AV.v (V1.c (C.val (Value.int IntKind.i64 ((S.scan (fun i => S.mask i == x) (33 : Nat) (0 : Int)).getD (0 : Int)))))) = some (AV.v (V1.c (C.val (Value.int IntKind.i64 (S.bits x)))))) ∧ ((S.scan (fun i => S.mask i == x) (33 : Nat) (0 : Int)).isSome = false → some (AV.v (V1.c (C.val (Value.int IntKind.i64 (-1 : Int))))) = some (AV.v (V1.c (C.val (Value.int IntKind.i64 (S.bits x)))))) by (apply nfto hnf; kernel_rfl)
  unfold S.bits
  cases S.scan (fun i => S.mask i == x) 33 0 <;> simp
end Go.Proofs.Ytoknhjmcoleejaa
