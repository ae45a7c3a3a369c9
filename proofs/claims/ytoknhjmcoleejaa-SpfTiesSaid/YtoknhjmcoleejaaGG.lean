/- The vertices of advertisements. No condition. -/
import Derived.Test.YtoknhjmcoleejaaFC
import Derived.Test.YtoknhjmcoleejaaGF
set_option linter.unusedVariables false
set_option linter.unusedSimpArgs false
namespace Go.Proofs.Ytoknhjmcoleejaa
open Go.RowKit
def lv50 : List (Nat × List Nat) := [(0, [0]), (1, [0, 3]), (2, [0, 3, 4]), (3, [0, 3, 4, 9]), (4, [0, 3, 4]), (5, [0, 3, 4, 5]), (6, [0, 3, 4, 5, 19]), (7, [0, 3, 4, 5, 29]), (8, [0, 3, 4, 5]), (9, [0, 3, 4, 5, 37]), (10, [0, 3, 4]), (11, [2]), (1000000, [3]), (1000001, [0, 3, 4])]
theorem vput_len (xs : List Vert) (v : Vert) : (S.vput xs v).length ≤ xs.length + 1 := by
  unfold S.vput
  by_cases h : (decide (S.vpos xs v < xs.length) && S.veq (xs.getD (S.vpos xs v).toNat (zero .vert)) v) = true
  · rw [if_pos h]; omega
  · rw [if_neg h, List.length_set, shift_len]; simp
def S.tiny (n : Nat) : Bool := decide (n < 268435456)
theorem tiny_r {n : Nat} (h : S.tiny n = true) : n < 268435456 := by simpa [S.tiny] using h
def S.vstep (o : List Vert) (l : Lsa) : List Vert :=
  if decide (l.head.age ≥ 3600) then o else
  if l.head.kind == 2 then S.vput (if l.head.kind == 1 && l.head.id == l.head.adv then S.vput o ⟨1, l.head.id⟩ else o) ⟨2, l.head.id⟩
  else (if l.head.kind == 1 && l.head.id == l.head.adv then S.vput o ⟨1, l.head.id⟩ else o)
theorem vstep_len (o : List Vert) (l : Lsa) : (S.vstep o l).length ≤ o.length + 2 := by
  unfold S.vstep
  have h1 := vput_len o ⟨1, l.head.id⟩
  have h2 := vput_len o ⟨2, l.head.id⟩
  have h3 := vput_len (S.vput o ⟨1, l.head.id⟩) ⟨2, l.head.id⟩
  repeat' split
  all_goals omega
def S.verts (ls : List Lsa) : List Vert := S.iter S.vstep ls (zero .lsa) ls.length 0 []
def hd50 : List HK := [.av 0 (.sl .lsa), .row 3 .vert 3, .av 4 .int]
def lc50 : LS := mkLS hd50 (fun ((ls : List Lsa), (o : List Vert), (i : Int), _) => [decide (i = 0), decide (o.length = 0), S.tiny ls.length]) fun ((ls : List Lsa), (o : List Vert), (i : Int), _) =>
  .one (.exit 0) ⟨[(3, .v (.c (.own 3)))], [(3, .arr .vert (S.iter S.vstep ls (zero .lsa) ls.length 0 o))]⟩
noncomputable def c50 : Code := sub (bodyOf Try.f50) [1,1,0,1,0,0]
def sg50 : List (Nat × Summary) := [(64, sm64)]
theorem lok50 : LoopOK Try.prog 44 c50 lc50 := by
  refine loop_ev (sig := sg50) (lcs := []) (lv := lv50) c50 (fun v => by kernel_rfl) (sig_cons ok64 sig_nil) (no_loops (by kernel_rfl)) ?_
  rintro ⟨(ls : List Lsa), (o : List Vert), (i0 : Int), _⟩ hpre
  have hp : i0 = 0 ∧ o.length = 0 ∧ S.tiny ls.length = true := by simpa using hpre
  have hp1 := hp.1
  have hp2 := hp.2.1
  have hl := tiny_r hp.2.2
  clear hp
  subst hp1
  refine ⟨fun n u => u.1 = ls ∧ (u.2.1 : List Vert).length + 2 * n ≤ 2 * ls.length ∧ 0 ≤ (u.2.2.1 : Int) ∧ (u.2.2.1 : Int) + n = ls.length ∧ S.iter S.vstep ls (zero .lsa) n u.2.2.1 u.2.1 = S.iter S.vstep ls (zero .lsa) ls.length 0 o, ls.length, ⟨rfl, by show o.length + 2 * ls.length ≤ _; omega, Int.le_refl 0, Int.zero_add _, rfl⟩, ?_⟩
  rintro Q hQ n ⟨(ls' : List Lsa), (o' : List Vert), (i : Int), _⟩ hI
  have h1 : ls' = ls := hI.1
  have hlen : o'.length + 2 * n ≤ 2 * ls.length := hI.2.1
  have h0 : 0 ≤ i := hI.2.2.1
  have hn : i + n = ls.length := hI.2.2.2.1
  have hs : S.iter S.vstep ls (zero .lsa) n i o' = S.iter S.vstep ls (zero .lsa) ls.length 0 o := hI.2.2.2.2
  have hQ1 : Q (.exit 0) ⟨[(3, .v (.c (.own 3)))], [(3, .arr .vert (S.iter S.vstep ls (zero .lsa) ls.length 0 o))]⟩ := hQ
  subst h1
  clear hI
  generalize S.iter S.vstep ls' (zero .lsa) ls'.length 0 o = res at hs hQ1
  suffices hnf : (decide (i < (↑ls'.length : Int)) = true → inb i ls'.length = true ∧ (decide ((ls'.getD i.toNat (zero K.lsa)).head.age ≥ (3600 : Int)) = true → ∃ n', n' < n ∧ ls' = ls' ∧ o'.length + (2 : Nat) * n' ≤ (2 : Nat) * ls'.length ∧ (0 : Int) ≤ IntKind.i64.wrap (i + (1 : Int)) ∧ IntKind.i64.wrap (i + (1 : Int)) + (↑n' : Int) = (↑ls'.length : Int) ∧ S.iter S.vstep ls' (zero K.lsa) n' (IntKind.i64.wrap (i + (1 : Int))) o' = res) ∧ (decide ((ls'.getD i.toNat (zero K.lsa)).head.age ≥ (3600 : Int)) = false → (((ls'.getD i.toNat (zero K.lsa)).head.kind == (1 : Int) && (ls'.getD i.toNat (zero K.lsa)).head.id == (ls'.getD i.toNat (zero K.lsa)).head.adv) = true → S.small o'.length = true ∧ (((ls'.getD i.toNat (zero K.lsa)).head.kind == (2 : Int)) = true → S.small (S.vput o' { kind := (1 : Int), id := (ls'.getD i.toNat (zero K.lsa)).head.id : Vert }).length = true ∧ ∃ n', n' < n ∧ ls' = ls' ∧ (S.vput (S.vput o' { kind := (1 : Int), id := (ls'.getD i.toNat (zero K.lsa)).head.id : Vert }) { kind := (2 : Int), id := (ls'.getD i.toNat (zero K.lsa)).head.id : Vert }).length + (2 : Nat) * n' ≤ (2 : Nat) * ls'.length ∧ (0 : Int) ≤ IntKind.i64.wrap (i + (1 : Int)) ∧ IntKind.i64.wrap (i + (1 : Int)) + (↑n' : Int) = (↑ls'.length : Int) ∧ S.iter S.vstep ls' (zero K.lsa) n' (IntKind.i64.wrap (i + (1 : Int))) (S.vput (S.vput o' { kind := (1 : Int), id := (ls'.getD i.toNat (zero K.lsa)).head.id : Vert }) { kind := (2 : Int), id := (ls'.getD i.toNat (zero K.lsa)).head.id : Vert }) = res) ∧ (((ls'.getD i.toNat (zero K.lsa)).head.kind == (2 : Int)) = false → ∃ n', n' < n ∧ ls' = ls' ∧ (S.vput o' { kind := (1 : Int), id := (ls'.getD i.toNat (zero K.lsa)).head.id : Vert }).length + (2 : Nat) * n' ≤ (2 : Nat) * ls'.length ∧ (0 : Int) ≤ IntKind.i64.wrap (i + (1 : Int)) ∧ IntKind.i64.wrap (i + (1 : Int)) + (↑n' : Int) = (↑ls'.length : Int) ∧ S.iter S.vstep ls' (zero K.lsa) n' (IntKind.i64.wrap (i + (1 : Int))) (S.vput o' { kind := (1 : Int), id := (ls'.getD i.toNat (zero K.lsa)).head.id : Vert }) = res)) ∧ (((ls'.getD i.toNat (zero K.lsa)).head.kind == (1 : Int) && (ls'.getD i.toNat (zero K.lsa)).head.id == (ls'.getD i.toNat (zero K.lsa)).head.adv) = false → (((ls'.getD i.toNat (zero K.lsa)).head.kind == (2 : Int)) = true → S.small o'.length = true ∧ ∃ n', n' < n ∧ ls' = ls' ∧ (S.vput o' { kind := (2 : Int), id := (ls'.getD i.toNat (zero K.lsa)).head.id : Vert }).length + (2 : Nat) * n' ≤ (2 : Nat) * ls'.length ∧ (0 : Int) ≤ IntKind.i64.wrap (i + (1 : Int)) ∧ IntKind.i64.wrap (i + (1 : Int)) + (↑n' : Int) = (↑ls'.length : Int) ∧ S.iter S.vstep ls' (zero K.lsa) n' (IntKind.i64.wrap (i + (1 : Int))) (S.vput o' { kind := (2 : Int), id := (ls'.getD i.toNat (zero K.lsa)).head.id : Vert }) = res) ∧ (((ls'.getD i.toNat (zero K.lsa)).head.kind == (2 : Int)) = false → ∃ n', n' < n ∧ ls' = ls' ∧ o'.length + (2 : Nat) * n' ≤ (2 : Nat) * ls'.length ∧ (0 : Int) ≤ IntKind.i64.wrap (i + (1 : Int)) ∧ IntKind.i64.wrap (i + (1 : Int)) + (↑n' : Int) = (↑ls'.length : Int) ∧ S.iter S.vstep ls' (zero K.lsa) n' (IntKind.i64.wrap (i + (1 : Int))) o' = res)))) ∧ (decide (i < (↑ls'.length : Int)) = false → Q (Exit.exit (0 : Nat)) { s := [((3 : Nat), AV.v (V1.c (C.own (3 : Nat))))], b := [((3 : Nat), Blk.arr K.vert o')] : St }) by (apply nfto hnf; kernel_rfl)
  cases n with
  | zero =>
    have : ¬ i < ls'.length := by omega
    refine ⟨fun h => absurd (of_decide_eq_true h) this, fun _ => ?_⟩
    rw [← hs] at hQ1; exact hQ1
  | succ n =>
    have hib : inb i ls'.length = true := by rw [inb_iff]; omega
    have hw : IntKind.i64.wrap (i + 1) = i + 1 := wrap_id (by omega) (by omega)
    simp only [S.iter] at hs
    rw [hw]
    generalize ls'.getD i.toNat (zero .lsa) = l at hs
    have sm : ∀ xs : List Vert, xs.length ≤ o'.length + 1 → S.small xs.length = true := fun xs h => by simp [S.small]; omega
    have b1 := vput_len o' ⟨1, l.head.id⟩
    have b2 := vstep_len o' l
    have fin : ∀ r, r = S.vstep o' l → ∃ n', n' < n + 1 ∧ ls' = ls' ∧ r.length + 2 * n' ≤ 2 * ls'.length ∧ (0 : Int) ≤ i + 1 ∧ i + 1 + (n' : Int) = ls'.length ∧ S.iter S.vstep ls' (zero .lsa) n' (i + 1) r = res := by
      intro r hr
      subst hr
      exact ⟨n, by omega, rfl, by omega, by omega, by omega, hs⟩
    refine ⟨fun _ => ⟨hib, fun h => fin _ ?_, fun h => ⟨fun h2 => ⟨sm _ (by omega), fun h3 => ⟨sm _ (by omega), fin _ ?_⟩, fun h3 => fin _ ?_⟩, fun h2 => ⟨fun h3 => ⟨sm _ (by omega), fin _ ?_⟩, fun h3 => fin _ ?_⟩⟩⟩, fun h => ?_⟩
    · simp only [S.vstep, h, if_true]
    · simp only [S.vstep, h, h2, h3, if_true, if_false, Bool.false_eq_true]
    · simp only [S.vstep, h, h2, h3, if_true, if_false, Bool.false_eq_true]
    · simp only [S.vstep, h, h2, h3, if_true, if_false, Bool.false_eq_true]
    · simp only [S.vstep, h, h2, h3, if_true, if_false, Bool.false_eq_true]
    · have : ¬ i < ls'.length := of_decide_eq_false h
      omega
def sm50 : Summary := mkSm [.sl .lsa] (fun ((ls : List Lsa), _) => [S.tiny ls.length]) fun ((ls : List Lsa), _) => .row .vert (S.verts ls)
theorem ok50 : SumOK Try.prog 50 sm50 := by
  refine sum_ev Try.f50 (lv := lv50) (lcs := [(3, lc50)]) (sig := sg50) (by kernel_rfl) ⟨by kernel_rfl, by kernel_rfl, by kernel_rfl⟩ (sig_cons ok64 sig_nil) (one_loop (c := c50) (by kernel_rfl) lok50) ?_
  rintro ⟨(ls : List Lsa), _⟩ hpre
  have hp : S.tiny ls.length = true := by simpa using hpre
  suffices hnf : true = true ∧ true = true ∧ S.tiny ls.length = true ∧ some (S.iter S.vstep ls (zero K.lsa) ls.length (0 : Int) []) = some (S.verts ls) by (apply nfto hnf; kernel_rfl)
  exact ⟨rfl, rfl, hp, rfl⟩
end Go.Proofs.Ytoknhjmcoleejaa
