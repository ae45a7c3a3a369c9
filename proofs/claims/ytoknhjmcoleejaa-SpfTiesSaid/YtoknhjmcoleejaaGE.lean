/- A vertex put into a row in order. No condition. -/
import Derived.Test.YtoknhjmcoleejaaFC
import Derived.Test.YtoknhjmcoleejaaGD
set_option linter.unusedVariables false
set_option linter.unusedSimpArgs false
namespace Go.Proofs.Ytoknhjmcoleejaa
open Go.RowKit
def lv64 : List (Nat × List Nat) := [(0, [0, 3]), (1, [0, 3, 5]), (2, [0, 3, 5, 40]), (3, [0, 3, 5]), (4, [0, 3, 5, 54]), (5, [4]), (6, [0, 3, 5]), (7, [0, 3, 5, 6]), (8, [0, 3, 5, 6, 65]), (9, [0, 3, 5, 6]), (10, [0, 3, 5, 6]), (11, [0]), (12, [4]), (1000000, [0, 3, 5]), (1000001, [0, 3, 5]), (1000002, [0, 3, 5]), (1000003, [0, 3, 5, 6])]
def S.vlt (a b : Vert) : Bool := decide (a.kind < b.kind) || (a.kind == b.kind && decide (a.id < b.id))
def S.vposAt (xs : List Vert) (v : Vert) : Option Int := S.scan (fun i => !(S.vlt (xs.getD i.toNat (zero .vert)) v)) xs.length 0
def S.vpos (xs : List Vert) (v : Vert) : Int := (S.vposAt xs v).getD xs.length
def hd64a : List HK := [.row 0 .vert 0, .box 3 3 .vert 38, .av 5 .int]
def lc64a : LS := mkLS hd64a (fun ((xs : List Vert), (v : Vert), (i : Int), _) => [decide (i = 0), S.okLen xs.length]) fun ((xs : List Vert), (v : Vert), (i : Int), _) =>
  .one (.exit 0) ⟨[(0, .v (.c (.own 0))), (3, .v (.c (.ptr 3 0))), (5, .v (.c (i64 (S.vpos xs v))))], [(0, .arr .vert xs), (3, .box (cells .vert v) 38)]⟩
noncomputable def c64a : Code := sub (bodyOf Try.f64) [1,1,0,0,0]
theorem lok64a : LoopOK Try.prog 81 c64a lc64a := by
  refine loop_ev (sig := []) (lcs := []) (lv := lv64) c64a (fun v => by kernel_rfl) sig_nil (no_loops (by kernel_rfl)) ?_
  rintro ⟨(xs : List Vert), (v : Vert), (i0 : Int), _⟩ hpre
  have hp : i0 = 0 ∧ S.okLen xs.length = true := by simpa using hpre
  obtain ⟨rfl, hl⟩ := hp
  have hl := okLen_r hl
  refine ⟨fun n u => u.1 = xs ∧ u.2.1 = v ∧ 0 ≤ (u.2.2.1 : Int) ∧ (u.2.2.1 : Int) + n = xs.length ∧ S.scan (fun i => !(S.vlt (xs.getD i.toNat (zero .vert)) v)) n u.2.2.1 = S.vposAt xs v, xs.length, ⟨rfl, rfl, Int.le_refl 0, Int.zero_add _, rfl⟩, ?_⟩
  rintro Q hQ n ⟨(xs' : List Vert), (v' : Vert), (i : Int), _⟩ hI
  have hx : xs' = xs := hI.1
  have hx' : v' = v := hI.2.1
  have h0 : 0 ≤ i := hI.2.2.1
  have hn : i + n = xs.length := hI.2.2.2.1
  have hs : S.scan (fun i => !(S.vlt (xs.getD i.toNat (zero .vert)) v)) n i = S.vposAt xs v := hI.2.2.2.2
  have hQ1 : Q (.exit 0) ⟨[(0, .v (.c (.own 0))), (3, .v (.c (.ptr 3 0))), (5, .v (.c (i64 ((S.vposAt xs v).getD xs.length))))], [(0, .arr .vert xs), (3, .box (cells .vert v) 38)]⟩ := hQ
  subst hx hx'
  clear hI
  generalize hr : S.vposAt xs' v' = res at hs hQ1
  suffices hnf : (!decide (i < (↑xs'.length : Int)) || inb i xs'.length) = true ∧ (!decide (i < (↑xs'.length : Int)) || inb i xs'.length) = true ∧ (!(decide (i < (↑xs'.length : Int)) && !decide ((xs'.getD i.toNat (zero K.vert)).kind < v'.kind)) || inb i xs'.length) = true ∧ (!(decide (i < (↑xs'.length : Int)) && !decide ((xs'.getD i.toNat (zero K.vert)).kind < v'.kind)) || inb i xs'.length) = true ∧ (!(decide (i < (↑xs'.length : Int)) && !decide ((xs'.getD i.toNat (zero K.vert)).kind < v'.kind) && (xs'.getD i.toNat (zero K.vert)).kind == v'.kind) || inb i xs'.length) = true ∧ (!(decide (i < (↑xs'.length : Int)) && !decide ((xs'.getD i.toNat (zero K.vert)).kind < v'.kind) && (xs'.getD i.toNat (zero K.vert)).kind == v'.kind) || inb i xs'.length) = true ∧ ((decide (i < (↑xs'.length : Int)) && (decide ((xs'.getD i.toNat (zero K.vert)).kind < v'.kind) || (xs'.getD i.toNat (zero K.vert)).kind == v'.kind && decide ((xs'.getD i.toNat (zero K.vert)).id < v'.id))) = true → ∃ n', n' < n ∧ xs' = xs' ∧ v' = v' ∧ (0 : Int) ≤ IntKind.i64.wrap (i + (1 : Int)) ∧ IntKind.i64.wrap (i + (1 : Int)) + (↑n' : Int) = (↑xs'.length : Int) ∧ S.scan (fun i => !S.vlt (xs'.getD i.toNat (zero K.vert)) v') n' (IntKind.i64.wrap (i + (1 : Int))) = res) ∧ ((decide (i < (↑xs'.length : Int)) && (decide ((xs'.getD i.toNat (zero K.vert)).kind < v'.kind) || (xs'.getD i.toNat (zero K.vert)).kind == v'.kind && decide ((xs'.getD i.toNat (zero K.vert)).id < v'.id))) = false → Q (Exit.exit (0 : Nat)) { s := [((0 : Nat), AV.v (V1.c (C.own (0 : Nat)))), ((3 : Nat), AV.v (V1.c (C.ptr (3 : Nat) (0 : Nat)))), ((5 : Nat), AV.v (V1.c (C.val (Value.int IntKind.i64 i))))], b := [((0 : Nat), Blk.arr K.vert xs'), ((3 : Nat), Blk.box [C.val (Value.int IntKind.i64 v'.kind), C.val (Value.int IntKind.i64 v'.id)] (38 : Nat))] : St }) by (apply nfto hnf; kernel_rfl)
  cases n with
  | zero =>
    have hi : i = xs'.length := by omega
    have : decide (i < (xs'.length : Int)) = false := by simp [hi]
    rw [this]
    refine ⟨rfl, rfl, rfl, rfl, rfl, rfl, fun h => ?_, fun _ => ?_⟩
    · cases h
    · rw [← hs] at hQ1; rw [hi]; exact hQ1
  | succ n =>
    have : decide (i < (xs'.length : Int)) = true := by simp; omega
    have hib : inb i xs'.length = true := by rw [inb_iff]; omega
    rw [this, hib]
    simp only [S.scan] at hs
    refine ⟨by simp, by simp, by simp, by simp, by simp, by simp, fun h => ?_, fun h => ?_⟩
    · have hv : S.vlt (xs'.getD i.toNat (zero .vert)) v' = true := h
      rw [if_neg (by rw [hv]; decide)] at hs
      have hw : IntKind.i64.wrap (i + 1) = i + 1 := wrap_id (by omega) (by omega)
      exact ⟨n, by omega, rfl, rfl, by rw [hw]; omega, by rw [hw]; omega, by rw [hw]; exact hs⟩
    · have hv : S.vlt (xs'.getD i.toNat (zero .vert)) v' = false := h
      rw [if_pos (by rw [hv]; decide)] at hs
      rw [← hs] at hQ1
      exact hQ1
/-! ### the row moved on -/
def S.shift : Nat → List Vert → Int → List Vert
  | 0, xs, _ => xs
  | n + 1, xs, j => S.shift n (xs.set j.toNat (xs.getD (j - 1).toNat (zero .vert))) (j - 1)
theorem shift_len : ∀ (n : Nat) (xs : List Vert) (j : Int), (S.shift n xs j).length = xs.length
  | 0, xs, j => rfl
  | n + 1, xs, j => by rw [S.shift, shift_len n]; simp
def hd64b : List HK := [.row 0 .vert 0, .box 3 3 .vert 38, .av 5 .int, .av 6 .int]
def lc64b : LS := mkLS hd64b (fun ((xs : List Vert), (v : Vert), (at_ : Int), (j : Int), _) => [decide (0 ≤ at_), decide (at_ ≤ j), decide (j < xs.length), S.okLen xs.length]) fun ((xs : List Vert), (v : Vert), (at_ : Int), (j : Int), _) =>
  .one (.exit 2) ⟨[(0, .v (.c (.own 0))), (3, .v (.c (.ptr 3 0))), (5, .v (.c (i64 at_)))], [(0, .arr .vert (S.shift (j - at_).toNat xs j)), (3, .box (cells .vert v) 38)]⟩
noncomputable def c64b : Code := sub (bodyOf Try.f64) [1,1,1,1,1,0,1,0,0]
theorem lok64b : LoopOK Try.prog 81 c64b lc64b := by
  refine loop_ev (sig := []) (lcs := []) (lv := lv64) c64b (fun v => by kernel_rfl) sig_nil (no_loops (by kernel_rfl)) ?_
  rintro ⟨(xs : List Vert), (v : Vert), (at_ : Int), (j0 : Int), _⟩ hpre
  have hp : 0 ≤ at_ ∧ at_ ≤ j0 ∧ j0 < xs.length ∧ S.okLen xs.length = true := by simpa using hpre
  obtain ⟨ha, haj, hj, hl⟩ := hp
  have hl := okLen_r hl
  refine ⟨fun n u => (u.1 : List Vert).length = xs.length ∧ u.2.1 = v ∧ u.2.2.1 = at_ ∧ (u.2.2.2.1 : Int) = at_ + n ∧ (u.2.2.2.1 : Int) < xs.length ∧ S.shift n u.1 u.2.2.2.1 = S.shift (j0 - at_).toNat xs j0, (j0 - at_).toNat, ⟨rfl, rfl, rfl, show j0 = at_ + ((j0 - at_).toNat : Int) by omega, hj, rfl⟩, ?_⟩
  rintro Q hQ n ⟨(ys : List Vert), (v' : Vert), (at' : Int), (j : Int), _⟩ hI
  have hx : ys.length = xs.length := hI.1
  have hx' : v' = v := hI.2.1
  have hat : at' = at_ := hI.2.2.1
  have hn : j = at_ + n := hI.2.2.2.1
  have hjl : j < xs.length := hI.2.2.2.2.1
  have hs : S.shift n ys j = S.shift (j0 - at_).toNat xs j0 := hI.2.2.2.2.2
  have hQ1 : Q (.exit 2) ⟨[(0, .v (.c (.own 0))), (3, .v (.c (.ptr 3 0))), (5, .v (.c (i64 at_)))], [(0, .arr .vert (S.shift (j0 - at_).toNat xs j0)), (3, .box (cells .vert v) 38)]⟩ := hQ
  subst hx' hat
  clear hI
  generalize S.shift (j0 - at').toNat xs j0 = res at hs hQ1
  suffices hnf : (decide (j > at') = true → inb (IntKind.i64.wrap (j - (1 : Int))) ys.length = true ∧ inb (IntKind.i64.wrap (j - (1 : Int))) ys.length = true ∧ inb j ys.length = true ∧ inb j ys.length = true ∧ ∃ n', n' < n ∧ (ys.set j.toNat (ys.getD (IntKind.i64.wrap (j - (1 : Int))).toNat (zero K.vert))).length = xs.length ∧ v' = v' ∧ at' = at' ∧ IntKind.i64.wrap (j - (1 : Int)) = at' + (↑n' : Int) ∧ IntKind.i64.wrap (j - (1 : Int)) < (↑xs.length : Int) ∧ S.shift n' (ys.set j.toNat (ys.getD (IntKind.i64.wrap (j - (1 : Int))).toNat (zero K.vert))) (IntKind.i64.wrap (j - (1 : Int))) = res) ∧ (decide (j > at') = false → Q (Exit.exit (2 : Nat)) { s := [((0 : Nat), AV.v (V1.c (C.own (0 : Nat)))), ((3 : Nat), AV.v (V1.c (C.ptr (3 : Nat) (0 : Nat)))), ((5 : Nat), AV.v (V1.c (C.val (Value.int IntKind.i64 at'))))], b := [((0 : Nat), Blk.arr K.vert ys), ((3 : Nat), Blk.box [C.val (Value.int IntKind.i64 v'.kind), C.val (Value.int IntKind.i64 v'.id)] (38 : Nat))] : St }) by (apply nfto hnf; kernel_rfl)
  cases n with
  | zero =>
    have : ¬ j > at' := by omega
    refine ⟨fun h => absurd (of_decide_eq_true h) this, fun _ => ?_⟩
    rw [← hs] at hQ1; exact hQ1
  | succ n =>
    refine ⟨fun _ => ?_, fun h => ?_⟩
    · have hw : IntKind.i64.wrap (j - 1) = j - 1 := wrap_id (by omega) (by omega)
      rw [hw]
      have i1 : inb (j - 1) ys.length = true := by rw [inb_iff]; omega
      have i2 : inb j ys.length = true := by rw [inb_iff]; omega
      exact ⟨i1, i1, i2, i2, n, by omega, by rw [List.length_set]; exact hx, rfl, rfl, by omega, by omega, hs⟩
    · have : ¬ j > at' := of_decide_eq_false h
      omega
/-! ### the whole -/
def S.vput (xs : List Vert) (v : Vert) : List Vert :=
  if decide (S.vpos xs v < xs.length) && S.veq (xs.getD (S.vpos xs v).toNat (zero .vert)) v then xs
  else (S.shift (xs.length - S.vpos xs v).toNat (xs ++ [⟨0, 0⟩]) xs.length).set (S.vpos xs v).toNat v
theorem vpos_r (xs : List Vert) (v : Vert) : 0 ≤ S.vpos xs v ∧ S.vpos xs v ≤ xs.length := by
  unfold S.vpos
  cases h : S.vposAt xs v with
  | none => simp
  | some j => have := scan_some h; simp; omega
def S.small (n : Nat) : Bool := decide (n < 1073741824)
theorem small_r {n : Nat} (h : S.small n = true) : n < 1073741824 := by simpa [S.small] using h
theorem small_ok {n : Nat} (h : S.small n = true) : S.okLen n = true := by have := small_r h; simp [S.okLen]; omega
def sm64 : Summary := mkSmG .vert [.vert] (fun (xs : List Vert) _ => [S.small xs.length]) fun (xs : List Vert) ((v : Vert), _) => S.vput xs v
theorem loops64 : ∀ c', c' ∈ loopsOf (bodyOf Try.f64) → ∀ lc, look [(2, lc64a), (8, lc64b)] (headId c') = some lc → LoopOK Try.prog 81 c' lc := by
  have h : loopsOf (bodyOf Try.f64) = [c64a, c64b] := by kernel_rfl
  have h1 : headId c64a = 2 := by kernel_rfl
  have h2 : headId c64b = 8 := by kernel_rfl
  rw [h]
  intro c' hc lc hlc
  simp only [List.mem_cons, List.not_mem_nil, or_false] at hc
  rcases hc with rfl | rfl
  · rw [h1] at hlc; obtain rfl := Option.some.inj hlc; exact lok64a
  · rw [h2] at hlc; obtain rfl := Option.some.inj hlc; exact lok64b
theorem ok64 : SumOK Try.prog 64 sm64 := by
  refine sum_grow Try.f64 (lv := lv64) (lcs := [(2, lc64a), (8, lc64b)]) (sig := []) (by kernel_rfl) ⟨by kernel_rfl, by kernel_rfl, by kernel_rfl⟩ sig_nil loops64 rfl rfl ?_
  rintro (xs : List Vert) ⟨(v : Vert), _⟩ hpre
  have hp : S.small xs.length = true := by simpa using hpre
  have hsm := small_r hp
  have hok := small_ok hp
  have q1 := (vpos_r xs v).1
  have q2 := (vpos_r xs v).2
  have hw : IntKind.i64.wrap (((xs ++ [(⟨0, 0⟩ : Vert)]).length : Int) - 1) = xs.length := by
    rw [wrap_id] <;> simp <;> omega
  suffices hnf : true = true ∧ S.okLen xs.length = true ∧ (!decide (S.vpos xs v < (↑xs.length : Int)) || inb (S.vpos xs v) xs.length) = true ∧ (!decide (S.vpos xs v < (↑xs.length : Int)) || inb (S.vpos xs v) xs.length) = true ∧ ((decide (S.vpos xs v < (↑xs.length : Int)) && ((xs.getD (S.vpos xs v).toNat (zero K.vert)).kind == v.kind && ((xs.getD (S.vpos xs v).toNat (zero K.vert)).id == v.id && true))) = true → some xs = some (S.vput xs v)) ∧ ((decide (S.vpos xs v < (↑xs.length : Int)) && ((xs.getD (S.vpos xs v).toNat (zero K.vert)).kind == v.kind && ((xs.getD (S.vpos xs v).toNat (zero K.vert)).id == v.id && true))) = false → roomy xs.length (1 : Nat) (16 : Nat) = true ∧ decide ((0 : Int) ≤ S.vpos xs v) = true ∧ decide (S.vpos xs v ≤ IntKind.i64.wrap ((↑(xs ++ [{ kind := (0 : Int), id := (0 : Int) : Vert }]).length : Int) - (1 : Int))) = true ∧ decide (IntKind.i64.wrap ((↑(xs ++ [{ kind := (0 : Int), id := (0 : Int) : Vert }]).length : Int) - (1 : Int)) < (↑(xs ++ [{ kind := (0 : Int), id := (0 : Int) : Vert }]).length : Int)) = true ∧ S.okLen (xs ++ [{ kind := (0 : Int), id := (0 : Int) : Vert }]).length = true ∧ inb (S.vpos xs v) (S.shift (IntKind.i64.wrap ((↑(xs ++ [{ kind := (0 : Int), id := (0 : Int) : Vert }]).length : Int) - (1 : Int)) - S.vpos xs v).toNat (xs ++ [{ kind := (0 : Int), id := (0 : Int) : Vert }]) (IntKind.i64.wrap ((↑(xs ++ [{ kind := (0 : Int), id := (0 : Int) : Vert }]).length : Int) - (1 : Int)))).length = true ∧ inb (S.vpos xs v) (S.shift (IntKind.i64.wrap ((↑(xs ++ [{ kind := (0 : Int), id := (0 : Int) : Vert }]).length : Int) - (1 : Int)) - S.vpos xs v).toNat (xs ++ [{ kind := (0 : Int), id := (0 : Int) : Vert }]) (IntKind.i64.wrap ((↑(xs ++ [{ kind := (0 : Int), id := (0 : Int) : Vert }]).length : Int) - (1 : Int)))).length = true ∧ some ((S.shift (IntKind.i64.wrap ((↑(xs ++ [{ kind := (0 : Int), id := (0 : Int) : Vert }]).length : Int) - (1 : Int)) - S.vpos xs v).toNat (xs ++ [{ kind := (0 : Int), id := (0 : Int) : Vert }]) (IntKind.i64.wrap ((↑(xs ++ [{ kind := (0 : Int), id := (0 : Int) : Vert }]).length : Int) - (1 : Int)))).set (S.vpos xs v).toNat v) = some (S.vput xs v)) by (apply nfto hnf; kernel_rfl)
  rw [hw]
  have hlen : (xs ++ [(⟨0, 0⟩ : Vert)]).length = xs.length + 1 := by simp
  refine ⟨rfl, hok, ?_, ?_, fun h => ?_, fun h => ⟨?_, ?_, ?_, ?_, ?_, ?_, ?_, ?_⟩⟩
  · by_cases h : S.vpos xs v < xs.length
    · have : inb (S.vpos xs v) xs.length = true := by rw [inb_iff]; exact ⟨q1, h⟩
      rw [this]; simp
    · simp [h]
  · by_cases h : S.vpos xs v < xs.length
    · have : inb (S.vpos xs v) xs.length = true := by rw [inb_iff]; exact ⟨q1, h⟩
      rw [this]; simp
    · simp [h]
  · unfold S.vput
    rw [if_pos (show (decide (S.vpos xs v < xs.length) && S.veq (xs.getD (S.vpos xs v).toNat (zero .vert)) v) = true from h)]
  · rw [roomy_iff]; omega
  · exact decide_eq_true q1
  · exact decide_eq_true q2
  · rw [hlen]; exact decide_eq_true (by omega)
  · rw [hlen]; simp [S.okLen]; omega
  · rw [inb_iff, shift_len, hlen]; omega
  · rw [inb_iff, shift_len, hlen]; omega
  · unfold S.vput
    rw [if_neg (by rw [show (decide (S.vpos xs v < xs.length) && S.veq (xs.getD (S.vpos xs v).toNat (zero .vert)) v) = false from h]; decide)]
end Go.Proofs.Ytoknhjmcoleejaa
