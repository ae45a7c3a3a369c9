/- Advertisements searched; vertices in order. No condition. -/
import Derived.Test.YtoknhjmcoleejaaFC
import Derived.Test.YtoknhjmcoleejaaGC
set_option linter.unusedVariables false
set_option linter.unusedSimpArgs false
namespace Go.Proofs.Ytoknhjmcoleejaa
open Go.RowKit
def lv85 : List (Nat × List Nat) := [(0, [1, 2, 3, 6]), (1, [1, 2, 3, 6, 8]), (2, [1, 2, 3, 6, 8, 13]), (3, [1, 2, 3, 6, 8]), (4, [1, 2, 3, 6, 8, 33]), (5, [6, 7]), (6, [6, 7]), (1000000, [6]), (1000001, [1, 2, 3, 6, 8])]
/-! ### back -/
def S.linkIs (ls : List Link) (kind id : Int) (i : Int) : Bool := (ls.getD i.toNat (zero .link)).kind == kind && (ls.getD i.toNat (zero .link)).id == id
def S.backAt (ls : List Link) (kind id : Int) : Option Int := S.scan (S.linkIs ls kind id) ls.length 0
def S.back (ls : List Link) (kind id : Int) : Link := if (S.backAt ls kind id).isSome then ls.getD ((S.backAt ls kind id).getD 0).toNat (zero .link) else ⟨0, 0, 0, 0⟩
def S.isBack (ls : List Link) (kind id : Int) : Bool := (S.backAt ls kind id).isSome
def hd85 : List HK := [.av 1 .int, .av 2 .int, .box 3 3 .lsa 48, .box 6 6 .link 50, .av 8 .int]
def lc85 : LS := mkLS hd85 (fun ((kind : Int), (id : Int), (x : Lsa), (y : Link), (i : Int), _) => [decide (i = 0), S.okLen x.links.length]) fun ((kind : Int), (id : Int), (x : Lsa), (y : Link), (i : Int), _) =>
  .two (S.backAt x.links kind id).isSome .ret ⟨[(6, .v (.c (.ptr 6 0))), (7, .v (.c (bo true)))], [(6, .box (cells .link (x.links.getD ((S.backAt x.links kind id).getD 0).toNat (zero .link))) 50)]⟩
    (.exit 0) ⟨[(6, .v (.c (.ptr 6 0)))], [(6, .box (cells .link y) 50)]⟩
noncomputable def c85 : Code := sub (bodyOf Try.f85) [1,0,1,0,0]
theorem lok85 : LoopOK Try.prog 40 c85 lc85 := by
  refine loop_ev (sig := []) (lcs := []) (lv := lv85) c85 (fun v => by kernel_rfl) sig_nil (no_loops (by kernel_rfl)) ?_
  rintro ⟨(kind : Int), (id : Int), (x : Lsa), (y : Link), (i0 : Int), _⟩ hpre
  have hp : i0 = 0 ∧ S.okLen x.links.length = true := by simpa using hpre
  obtain ⟨rfl, hl⟩ := hp
  have hl := okLen_r hl
  refine ⟨fun n u => u.1 = kind ∧ u.2.1 = id ∧ u.2.2.1 = x ∧ u.2.2.2.1 = y ∧ 0 ≤ (u.2.2.2.2.1 : Int) ∧ (u.2.2.2.2.1 : Int) + n = x.links.length ∧ S.scan (S.linkIs x.links kind id) n u.2.2.2.2.1 = S.backAt x.links kind id, x.links.length, ⟨rfl, rfl, rfl, rfl, Int.le_refl 0, Int.zero_add _, rfl⟩, ?_⟩
  rintro Q hQ n ⟨(kind' : Int), (id' : Int), (x' : Lsa), (y' : Link), (i : Int), _⟩ hI
  have h1 : kind' = kind := hI.1
  have h2 : id' = id := hI.2.1
  have h3 : x' = x := hI.2.2.1
  have h4 : y' = y := hI.2.2.2.1
  have h0 : 0 ≤ i := hI.2.2.2.2.1
  have hn : i + n = x.links.length := hI.2.2.2.2.2.1
  have hs : S.scan (S.linkIs x.links kind id) n i = S.backAt x.links kind id := hI.2.2.2.2.2.2
  have hQ1 := hQ.1
  have hQ2 := hQ.2
  subst h1 h2 h3 h4
  clear hI
  generalize hr : S.backAt x'.links kind' id' = res at hs hQ1 hQ2
  suffices hnf : (decide (i < (↑x'.links.length : Int)) = true → inb i x'.links.length = true ∧ (!(x'.links.getD i.toNat (zero K.link)).kind == kind' || inb i x'.links.length) = true ∧ (((x'.links.getD i.toNat (zero K.link)).kind == kind' && (x'.links.getD i.toNat (zero K.link)).id == id') = true → inb i x'.links.length = true ∧ Q Exit.ret { s := [((6 : Nat), AV.v (V1.c (C.ptr (6 : Nat) (0 : Nat)))), ((7 : Nat), AV.v (V1.c (C.val (Value.bool true))))], b := [((6 : Nat), Blk.box [C.val (Value.int IntKind.i64 (x'.links.getD i.toNat (zero K.link)).kind), C.val (Value.int IntKind.i64 (x'.links.getD i.toNat (zero K.link)).id), C.val (Value.int IntKind.i64 (x'.links.getD i.toNat (zero K.link)).data), C.val (Value.int IntKind.i64 (x'.links.getD i.toNat (zero K.link)).cost)] (50 : Nat))] : St }) ∧ (((x'.links.getD i.toNat (zero K.link)).kind == kind' && (x'.links.getD i.toNat (zero K.link)).id == id') = false → ∃ n', n' < n ∧ kind' = kind' ∧ id' = id' ∧ x' = x' ∧ y' = y' ∧ (0 : Int) ≤ IntKind.i64.wrap (i + (1 : Int)) ∧ IntKind.i64.wrap (i + (1 : Int)) + (↑n' : Int) = (↑x'.links.length : Int) ∧ S.scan (S.linkIs x'.links kind' id') n' (IntKind.i64.wrap (i + (1 : Int))) = res)) ∧ (decide (i < (↑x'.links.length : Int)) = false → Q (Exit.exit (0 : Nat)) { s := [((6 : Nat), AV.v (V1.c (C.ptr (6 : Nat) (0 : Nat))))], b := [((6 : Nat), Blk.box [C.val (Value.int IntKind.i64 y'.kind), C.val (Value.int IntKind.i64 y'.id), C.val (Value.int IntKind.i64 y'.data), C.val (Value.int IntKind.i64 y'.cost)] (50 : Nat))] : St }) by (apply nfto hnf; kernel_rfl)
  cases n with
  | zero =>
    have : ¬ i < x'.links.length := by omega
    refine ⟨fun h => absurd (of_decide_eq_true h) this, fun _ => hQ2 (by rw [← hs]; rfl)⟩
  | succ n =>
    simp only [S.scan] at hs
    have hib : inb i x'.links.length = true := by rw [inb_iff]; omega
    refine ⟨fun _ => ⟨hib, by rw [hib]; simp, fun h => ?_, fun h => ?_⟩, fun h => ?_⟩
    · rw [if_pos (show S.linkIs _ _ _ _ = true from h)] at hs
      have := hQ1 (by rw [← hs]; rfl)
      rw [← hs] at this
      exact ⟨hib, this⟩
    · rw [if_neg (by rw [show S.linkIs _ _ _ _ = false from h]; decide)] at hs
      have hw : IntKind.i64.wrap (i + 1) = i + 1 := wrap_id (by omega) (by omega)
      exact ⟨n, by omega, rfl, rfl, rfl, rfl, by rw [hw]; omega, by rw [hw]; omega, by rw [hw]; exact hs⟩
    · have : ¬ i < x'.links.length := of_decide_eq_false h
      omega
def sm85 : Summary := mkSm [.lsa, .int, .int] (fun ((x : Lsa), _) => [S.okLen x.links.length]) fun ((x : Lsa), (kind : Int), (id : Int), _) => .fresh (.tup [.agg (cells .link (S.back x.links kind id)), .c (bo (S.isBack x.links kind id))])
theorem ok85 : SumOK Try.prog 85 sm85 := by
  refine sum_ev Try.f85 (lv := lv85) (lcs := [(2, lc85)]) (sig := []) (by kernel_rfl) ⟨by kernel_rfl, by kernel_rfl, by kernel_rfl⟩ sig_nil (one_loop (c := c85) (by kernel_rfl) lok85) ?_
  rintro ⟨(x : Lsa), (kind : Int), (id : Int), _⟩ hpre
  have hp : S.okLen x.links.length = true := by simpa using hpre
  suffices hnf : true = true ∧ S.okLen x.links.length = true ∧ ((S.backAt x.links kind id).isSome = true → some (AV.tup [V1.agg [C.val (Value.int IntKind.i64 (x.links.getD ((S.backAt x.links kind id).getD (0 : Int)).toNat (zero K.link)).kind), C.val (Value.int IntKind.i64 (x.links.getD ((S.backAt x.links kind id).getD (0 : Int)).toNat (zero K.link)).id), C.val (Value.int IntKind.i64 (x.links.getD ((S.backAt x.links kind id).getD (0 : Int)).toNat (zero K.link)).data), C.val (Value.int IntKind.i64 (x.links.getD ((S.backAt x.links kind id).getD (0 : Int)).toNat (zero K.link)).cost)], V1.c (C.val (Value.bool true))]) = some (AV.tup [V1.agg [C.val (Value.int IntKind.i64 (S.back x.links kind id).kind), C.val (Value.int IntKind.i64 (S.back x.links kind id).id), C.val (Value.int IntKind.i64 (S.back x.links kind id).data), C.val (Value.int IntKind.i64 (S.back x.links kind id).cost)], V1.c (C.val (Value.bool (S.isBack x.links kind id)))])) ∧ ((S.backAt x.links kind id).isSome = false → some (AV.tup [V1.agg [C.val (Value.int IntKind.i64 (0 : Int)), C.val (Value.int IntKind.i64 (0 : Int)), C.val (Value.int IntKind.i64 (0 : Int)), C.val (Value.int IntKind.i64 (0 : Int))], V1.c (C.val (Value.bool false))]) = some (AV.tup [V1.agg [C.val (Value.int IntKind.i64 (S.back x.links kind id).kind), C.val (Value.int IntKind.i64 (S.back x.links kind id).id), C.val (Value.int IntKind.i64 (S.back x.links kind id).data), C.val (Value.int IntKind.i64 (S.back x.links kind id).cost)], V1.c (C.val (Value.bool (S.isBack x.links kind id)))])) by (apply nfto hnf; kernel_rfl)
  refine ⟨rfl, hp, fun h => ?_, fun h => ?_⟩ <;> simp [S.back, S.isBack, h]
end Go.Proofs.Ytoknhjmcoleejaa
