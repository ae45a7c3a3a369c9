/- Right advertisements. No condition. -/
import Derived.Test.YtoknhjmcoleejaaFC
import Derived.Test.YtoknhjmcoleejaaGP
set_option linter.unusedVariables false
set_option linter.unusedSimpArgs false
set_option maxHeartbeats 4000000
namespace Go.Proofs.Ytoknhjmcoleejaa
open Go.RowKit
def lv101 : List (Nat × List Nat) := [(0, [0]), (1, [2])]
def lv70 : List (Nat × List Nat) := [(0, [0]), (1, [2])]
def lv88 : List (Nat × List Nat) := [(0, [1]), (1, [2])]
def lv58 : List (Nat × List Nat) := [(0, [1, 2]), (1, [2])]
def lv56 : List (Nat × List Nat) := [(0, [1]), (1, [2])]
def lv57 : List (Nat × List Nat) := [(0, [1]), (1, [1, 49]), (2, [2]), (3, [1, 3]), (4, [1, 90]), (5, [2]), (6, [1, 4]), (7, [1, 4, 95]), (8, [1, 4]), (9, [1, 4, 5]), (10, [1, 4, 132]), (11, [2]), (12, [1, 6]), (13, [1, 6, 137]), (14, [1, 6]), (15, [1, 6, 146]), (16, [2]), (17, [1, 7]), (18, [1, 7, 151]), (19, [1, 7]), (20, [1, 7, 179]), (21, [2]), (22, [2]), (1000000, [1]), (1000001, [1, 4]), (1000002, [1]), (1000003, [1, 6]), (1000004, []), (1000005, [1, 7])]
def lv23 : List (Nat × List Nat) := [(0, [0]), (1, [0, 7]), (2, [2]), (3, [0, 3]), (4, [0, 3, 11]), (5, [0, 3]), (6, [0, 3, 26]), (7, [2]), (8, [0, 3, 4]), (9, [0, 3, 4, 29]), (10, [0, 3, 4]), (11, [0, 3, 4, 44]), (12, [2]), (13, [2]), (1000000, []), (1000001, [0, 3]), (1000002, [0, 3]), (1000003, [0, 3, 4])]
def S.kindOk (k : Int) : Bool := (k == 1 || k == 2) || k == 6
def sm101 : Summary := mkSm [.int] (fun _ => []) fun ((k : Int), _) => .fresh (.v (.c (bo (S.kindOk k))))
theorem ok101 : SumOK Try.prog 101 sm101 := by
  refine sum_ev Try.f101 (lv := lv101) (lcs := []) (sig := []) (by kernel_rfl) ⟨by kernel_rfl, by kernel_rfl, by kernel_rfl⟩ sig_nil (no_loops (by kernel_rfl)) ?_
  rintro ⟨(k : Int), _⟩ hpre
  suffices hnf : some (AV.v (V1.c (C.val (Value.bool (k == (1 : Int) || k == (2 : Int) || k == (6 : Int)))))) = some (AV.v (V1.c (C.val (Value.bool (S.kindOk k))))) by (apply nfto hnf; kernel_rfl)
  rfl
def S.rightA (a : Int) : Bool := decide (a ≥ 0) && decide (a ≤ 4294967295)
def sm70 : Summary := mkSm [.int] (fun _ => []) fun ((k : Int), _) => .fresh (.v (.c (bo (S.rightA k))))
theorem ok70 : SumOK Try.prog 70 sm70 := by
  refine sum_ev Try.f70 (lv := lv70) (lcs := []) (sig := []) (by kernel_rfl) ⟨by kernel_rfl, by kernel_rfl, by kernel_rfl⟩ sig_nil (no_loops (by kernel_rfl)) ?_
  rintro ⟨(k : Int), _⟩ hpre
  suffices hnf : some (AV.v (V1.c (C.val (Value.bool (decide (k ≥ (0 : Int)) && decide (k ≤ (4294967295 : Int))))))) = some (AV.v (V1.c (C.val (Value.bool (S.rightA k))))) by (apply nfto hnf; kernel_rfl)
  rfl
def sg88 : List (Nat × Summary) := [(101, sm101), (70, sm70)]
def S.headOk (h : Head) : Bool := ((((((S.kindOk h.kind && decide (h.age ≥ 0)) && decide (h.age ≤ 3600)) && S.rightA h.id) && S.rightA h.adv) && h.adv != 0) && decide (h.seq ≥ -2147483647)) && decide (h.seq ≤ 2147483647)
def sm88 : Summary := mkSm [.head] (fun _ => []) fun ((h : Head), _) => .fresh (.v (.c (bo (S.headOk h))))
theorem ok88 : SumOK Try.prog 88 sm88 := by
  refine sum_ev Try.f88 (lv := lv88) (lcs := []) (sig := sg88) (by kernel_rfl) ⟨by kernel_rfl, by kernel_rfl, by kernel_rfl⟩ (sig_cons ok101 (sig_cons ok70 sig_nil)) (no_loops (by kernel_rfl)) ?_
  rintro ⟨(h : Head), _⟩ hpre
  suffices hnf : some (AV.v (V1.c (C.val (Value.bool (S.kindOk h.kind && decide (h.age ≥ (0 : Int)) && decide (h.age ≤ (3600 : Int)) && S.rightA h.id && S.rightA h.adv && h.adv != (0 : Int) && decide (h.seq ≥ (-2147483647 : Int)) && decide (h.seq ≤ (2147483647 : Int))))))) = some (AV.v (V1.c (C.val (Value.bool (S.headOk h))))) by (apply nfto hnf; kernel_rfl)
  rfl
def sm58 : Summary := mkSm [.head] (fun _ => []) fun ((h : Head), _) => .fresh (.v (.agg [i64 h.kind, i64 h.id, i64 h.adv]))
theorem ok58 : SumOK Try.prog 58 sm58 := by
  refine sum_ev Try.f58 (lv := lv58) (lcs := []) (sig := []) (by kernel_rfl) ⟨by kernel_rfl, by kernel_rfl, by kernel_rfl⟩ sig_nil (no_loops (by kernel_rfl)) ?_
  rintro ⟨(h : Head), _⟩ hpre
  suffices hnf : some (AV.v (V1.agg [C.val (Value.int IntKind.i64 h.kind), C.val (Value.int IntKind.i64 h.id), C.val (Value.int IntKind.i64 h.adv)])) = some (AV.v (V1.agg [C.val (Value.int IntKind.i64 h.kind), C.val (Value.int IntKind.i64 h.id), C.val (Value.int IntKind.i64 h.adv)])) by (apply nfto hnf; kernel_rfl)
  rfl
def S.great (x : Lsa) : Bool := (decide ((x.links.length : Int) > 70) || decide ((x.routers.length : Int) > 70)) || decide ((x.verts.length : Int) > 70)
def sm56 : Summary := mkSm [.lsa] (fun _ => []) fun ((x : Lsa), _) => .fresh (.v (.c (bo (S.great x))))
theorem ok56 : SumOK Try.prog 56 sm56 := by
  refine sum_ev Try.f56 (lv := lv56) (lcs := []) (sig := []) (by kernel_rfl) ⟨by kernel_rfl, by kernel_rfl, by kernel_rfl⟩ sig_nil (no_loops (by kernel_rfl)) ?_
  rintro ⟨(x : Lsa), _⟩ hpre
  suffices hnf : some (AV.v (V1.c (C.val (Value.bool (decide ((↑x.links.length : Int) > (70 : Int)) || decide ((↑x.routers.length : Int) > (70 : Int)) || decide ((↑x.verts.length : Int) > (70 : Int))))))) = some (AV.v (V1.c (C.val (Value.bool (S.great x))))) by (apply nfto hnf; kernel_rfl)
  rfl
def sg57 : List (Nat × Summary) := [(88, sm88), (70, sm70)]
theorem sok57 : SigOK Try.prog sg57 := sig_cons ok88 (sig_cons ok70 sig_nil)
def S.linkBad (k : Link) : Bool := ((((decide (k.kind < 1) || decide (k.kind > 3)) || !(S.rightA k.id)) || !(S.rightA k.data)) || decide (k.cost < 0)) || decide (k.cost > 65535)
def S.vertBad (v : Vert) : Bool := (decide (v.kind < 1) || decide (v.kind > 2)) || !(S.rightA v.id)
def hd57a : List HK := [.box 1 1 .lsa 48, .av 4 .int]
def lc57a : LS := mkLS hd57a (fun ((x : Lsa), (i : Int), _) => [decide (i = 0), S.okLen x.links.length]) fun ((x : Lsa), (i : Int), _) =>
  .two (S.scan (fun i => S.linkBad (x.links.getD i.toNat (zero .link))) (x.links.length) 0).isSome .ret ⟨[(2, .v (.c (bo false)))], []⟩ (.exit 0) ⟨[(1, .v (.c (.ptr 1 0)))], [(1, .box (cells .lsa x) 48)]⟩
noncomputable def c57a : Code := sub (bodyOf Try.f57) [1, 1, 1, 1, 0, 1, 0, 0]
theorem lok57a : LoopOK Try.prog 180 c57a lc57a := by
  refine loop_ev (sig := sg57) (lcs := []) (lv := lv57) c57a (fun v => by kernel_rfl) sok57 (no_loops (by kernel_rfl)) ?_
  rintro ⟨(x : Lsa), (i0 : Int), _⟩ hpre
  have hp : i0 = 0 ∧ S.okLen x.links.length = true := by simpa using hpre
  have hp0 := hp.1
  have hp1 := hp.2
  subst hp0
  have hl := okLen_r hp1
  clear hp hpre
  refine ⟨fun n u => u.1 = x ∧ 0 ≤ (u.2.1 : Int) ∧ (u.2.1 : Int) + n = ((x.links.length : Nat) : Int) ∧ S.scan (fun i => S.linkBad (x.links.getD i.toNat (zero .link))) n u.2.1 = S.scan (fun i => S.linkBad (x.links.getD i.toNat (zero .link))) (x.links.length) 0, (x.links.length) - (0 : Nat), ⟨rfl, Int.le_refl 0, by first | exact Int.zero_add _ | (show (0 : Int) + _ = _; omega), rfl⟩, ?_⟩
  rintro Q hQ n ⟨(x' : Lsa), (i' : Int), _⟩ hI
  have e0 : x' = x := hI.1
  have h0 : 0 ≤ i' := hI.2.1
  have hn : i' + n = ((x.links.length : Nat) : Int) := hI.2.2.1
  have hs : S.scan (fun i => S.linkBad (x.links.getD i.toNat (zero .link))) (n) i' = S.scan (fun i => S.linkBad (x.links.getD i.toNat (zero .link))) (x.links.length) 0 := hI.2.2.2
  subst e0
  have hQ1 := hQ.1
  have hQ2 := hQ.2
  clear hI hQ
  generalize S.scan (fun i => S.linkBad (x'.links.getD i.toNat (zero .link))) (x'.links.length) 0 = res at hs hQ1 hQ2
  suffices hnf : (decide (i' < (↑x'.links.length : Int)) = true → inb i' x'.links.length = true ∧ ((decide ((x'.links.getD i'.toNat (zero K.link)).kind < (1 : Int)) || decide ((x'.links.getD i'.toNat (zero K.link)).kind > (3 : Int)) || !S.rightA (x'.links.getD i'.toNat (zero K.link)).id || !S.rightA (x'.links.getD i'.toNat (zero K.link)).data || decide ((x'.links.getD i'.toNat (zero K.link)).cost < (0 : Int)) || decide ((x'.links.getD i'.toNat (zero K.link)).cost > (65535 : Int))) = true → Q Exit.ret { s := [((2 : Nat), AV.v (V1.c (C.val (Value.bool false))))], b := [] : St }) ∧ ((decide ((x'.links.getD i'.toNat (zero K.link)).kind < (1 : Int)) || decide ((x'.links.getD i'.toNat (zero K.link)).kind > (3 : Int)) || !S.rightA (x'.links.getD i'.toNat (zero K.link)).id || !S.rightA (x'.links.getD i'.toNat (zero K.link)).data || decide ((x'.links.getD i'.toNat (zero K.link)).cost < (0 : Int)) || decide ((x'.links.getD i'.toNat (zero K.link)).cost > (65535 : Int))) = false → ∃ n', n' < n ∧ x' = x' ∧ (0 : Int) ≤ IntKind.i64.wrap (i' + (1 : Int)) ∧ IntKind.i64.wrap (i' + (1 : Int)) + (↑n' : Int) = (↑x'.links.length : Int) ∧ S.scan (fun i => S.linkBad (x'.links.getD i.toNat (zero K.link))) n' (IntKind.i64.wrap (i' + (1 : Int))) = res)) ∧ (decide (i' < (↑x'.links.length : Int)) = false → Q (Exit.exit (0 : Nat)) { s := [((1 : Nat), AV.v (V1.c (C.ptr (1 : Nat) (0 : Nat))))], b := [((1 : Nat), Blk.box [C.val (Value.int IntKind.i64 x'.head.age), C.val (Value.int IntKind.i64 x'.head.kind), C.val (Value.int IntKind.i64 x'.head.id), C.val (Value.int IntKind.i64 x'.head.adv), C.val (Value.int IntKind.i64 x'.head.seq), C.val (Value.int IntKind.i64 x'.head.sum), C.val (Value.int IntKind.i64 x'.head.len), C.val (Value.int IntKind.i64 x'.flags), C.sl K.link x'.links, C.val (Value.int IntKind.i64 x'.bits), C.sl K.int x'.routers, C.sl K.vert x'.verts] (48 : Nat))] : St }) by (apply nfto hnf; kernel_rfl)
  cases n with
  | zero =>
    have hno : ¬ i' < ((x'.links.length : Nat) : Int) := by omega
    exact ⟨fun h => absurd (of_decide_eq_true h) hno, fun _ => hQ2 (by rw [← hs]; rfl)⟩
  | succ n =>
    simp only [S.scan] at hs
    have hib : inb i' (x'.links.length) = true := by rw [inb_iff]; omega
    have hw : IntKind.i64.wrap (i' + 1) = i' + 1 := wrap_id (by omega) (by omega)
    rw [hw]
    refine ⟨fun _ => ⟨hib, fun h => ?_, fun h => ?_⟩, fun h => ?_⟩
    · rw [if_pos (show (S.linkBad (x'.links.getD i'.toNat (zero .link))) = true from h)] at hs
      have := hQ1 (by rw [← hs]; rfl)
      exact this
    · rw [if_neg (by rw [show (S.linkBad (x'.links.getD i'.toNat (zero .link))) = false from h]; decide)] at hs
      exact ⟨n, by omega, rfl, by omega, by omega, hs⟩
    · have := of_decide_eq_false h
      omega
def hd57b : List HK := [.box 1 1 .lsa 48, .av 6 .int]
def lc57b : LS := mkLS hd57b (fun ((x : Lsa), (i : Int), _) => [decide (i = 0), S.okLen x.routers.length]) fun ((x : Lsa), (i : Int), _) =>
  .two (S.scan (fun i => !(S.rightA (x.routers.getD i.toNat 0))) (x.routers.length) 0).isSome .ret ⟨[(2, .v (.c (bo false)))], []⟩ (.exit 2) ⟨[(1, .v (.c (.ptr 1 0)))], [(1, .box (cells .lsa x) 48)]⟩
noncomputable def c57b : Code := sub (bodyOf Try.f57) [1, 1, 1, 1, 1, 0, 1, 0, 0]
theorem lok57b : LoopOK Try.prog 180 c57b lc57b := by
  refine loop_ev (sig := sg57) (lcs := []) (lv := lv57) c57b (fun v => by kernel_rfl) sok57 (no_loops (by kernel_rfl)) ?_
  rintro ⟨(x : Lsa), (i0 : Int), _⟩ hpre
  have hp : i0 = 0 ∧ S.okLen x.routers.length = true := by simpa using hpre
  have hp0 := hp.1
  have hp1 := hp.2
  subst hp0
  have hl := okLen_r hp1
  clear hp hpre
  refine ⟨fun n u => u.1 = x ∧ 0 ≤ (u.2.1 : Int) ∧ (u.2.1 : Int) + n = ((x.routers.length : Nat) : Int) ∧ S.scan (fun i => !(S.rightA (x.routers.getD i.toNat 0))) n u.2.1 = S.scan (fun i => !(S.rightA (x.routers.getD i.toNat 0))) (x.routers.length) 0, (x.routers.length) - (0 : Nat), ⟨rfl, Int.le_refl 0, by first | exact Int.zero_add _ | (show (0 : Int) + _ = _; omega), rfl⟩, ?_⟩
  rintro Q hQ n ⟨(x' : Lsa), (i' : Int), _⟩ hI
  have e0 : x' = x := hI.1
  have h0 : 0 ≤ i' := hI.2.1
  have hn : i' + n = ((x.routers.length : Nat) : Int) := hI.2.2.1
  have hs : S.scan (fun i => !(S.rightA (x.routers.getD i.toNat 0))) (n) i' = S.scan (fun i => !(S.rightA (x.routers.getD i.toNat 0))) (x.routers.length) 0 := hI.2.2.2
  subst e0
  have hQ1 := hQ.1
  have hQ2 := hQ.2
  clear hI hQ
  generalize S.scan (fun i => !(S.rightA (x'.routers.getD i.toNat 0))) (x'.routers.length) 0 = res at hs hQ1 hQ2
  suffices hnf : (decide (i' < (↑x'.routers.length : Int)) = true → inb i' x'.routers.length = true ∧ ((!S.rightA (x'.routers.getD i'.toNat (0 : Int))) = true → Q Exit.ret { s := [((2 : Nat), AV.v (V1.c (C.val (Value.bool false))))], b := [] : St }) ∧ ((!S.rightA (x'.routers.getD i'.toNat (0 : Int))) = false → ∃ n', n' < n ∧ x' = x' ∧ (0 : Int) ≤ IntKind.i64.wrap (i' + (1 : Int)) ∧ IntKind.i64.wrap (i' + (1 : Int)) + (↑n' : Int) = (↑x'.routers.length : Int) ∧ S.scan (fun i => !S.rightA (x'.routers.getD i.toNat (0 : Int))) n' (IntKind.i64.wrap (i' + (1 : Int))) = res)) ∧ (decide (i' < (↑x'.routers.length : Int)) = false → Q (Exit.exit (2 : Nat)) { s := [((1 : Nat), AV.v (V1.c (C.ptr (1 : Nat) (0 : Nat))))], b := [((1 : Nat), Blk.box [C.val (Value.int IntKind.i64 x'.head.age), C.val (Value.int IntKind.i64 x'.head.kind), C.val (Value.int IntKind.i64 x'.head.id), C.val (Value.int IntKind.i64 x'.head.adv), C.val (Value.int IntKind.i64 x'.head.seq), C.val (Value.int IntKind.i64 x'.head.sum), C.val (Value.int IntKind.i64 x'.head.len), C.val (Value.int IntKind.i64 x'.flags), C.sl K.link x'.links, C.val (Value.int IntKind.i64 x'.bits), C.sl K.int x'.routers, C.sl K.vert x'.verts] (48 : Nat))] : St }) by (apply nfto hnf; kernel_rfl)
  cases n with
  | zero =>
    have hno : ¬ i' < ((x'.routers.length : Nat) : Int) := by omega
    exact ⟨fun h => absurd (of_decide_eq_true h) hno, fun _ => hQ2 (by rw [← hs]; rfl)⟩
  | succ n =>
    simp only [S.scan] at hs
    have hib : inb i' (x'.routers.length) = true := by rw [inb_iff]; omega
    have hw : IntKind.i64.wrap (i' + 1) = i' + 1 := wrap_id (by omega) (by omega)
    rw [hw]
    refine ⟨fun _ => ⟨hib, fun h => ?_, fun h => ?_⟩, fun h => ?_⟩
    · rw [if_pos (show (!(S.rightA (x'.routers.getD i'.toNat 0))) = true from h)] at hs
      have := hQ1 (by rw [← hs]; rfl)
      exact this
    · rw [if_neg (by rw [show (!(S.rightA (x'.routers.getD i'.toNat 0))) = false from h]; decide)] at hs
      exact ⟨n, by omega, rfl, by omega, by omega, hs⟩
    · have := of_decide_eq_false h
      omega
def hd57c : List HK := [.box 1 1 .lsa 48, .av 7 .int]
def lc57c : LS := mkLS hd57c (fun ((x : Lsa), (i : Int), _) => [decide (i = 0), S.okLen x.verts.length]) fun ((x : Lsa), (i : Int), _) =>
  .two (S.scan (fun i => S.vertBad (x.verts.getD i.toNat (zero .vert))) (x.verts.length) 0).isSome .ret ⟨[(2, .v (.c (bo false)))], []⟩ (.exit 4) ⟨[], []⟩
noncomputable def c57c : Code := sub (bodyOf Try.f57) [1, 1, 1, 1, 1, 1, 0, 1, 0, 0]
theorem lok57c : LoopOK Try.prog 180 c57c lc57c := by
  refine loop_ev (sig := sg57) (lcs := []) (lv := lv57) c57c (fun v => by kernel_rfl) sok57 (no_loops (by kernel_rfl)) ?_
  rintro ⟨(x : Lsa), (i0 : Int), _⟩ hpre
  have hp : i0 = 0 ∧ S.okLen x.verts.length = true := by simpa using hpre
  have hp0 := hp.1
  have hp1 := hp.2
  subst hp0
  have hl := okLen_r hp1
  clear hp hpre
  refine ⟨fun n u => u.1 = x ∧ 0 ≤ (u.2.1 : Int) ∧ (u.2.1 : Int) + n = ((x.verts.length : Nat) : Int) ∧ S.scan (fun i => S.vertBad (x.verts.getD i.toNat (zero .vert))) n u.2.1 = S.scan (fun i => S.vertBad (x.verts.getD i.toNat (zero .vert))) (x.verts.length) 0, (x.verts.length) - (0 : Nat), ⟨rfl, Int.le_refl 0, by first | exact Int.zero_add _ | (show (0 : Int) + _ = _; omega), rfl⟩, ?_⟩
  rintro Q hQ n ⟨(x' : Lsa), (i' : Int), _⟩ hI
  have e0 : x' = x := hI.1
  have h0 : 0 ≤ i' := hI.2.1
  have hn : i' + n = ((x.verts.length : Nat) : Int) := hI.2.2.1
  have hs : S.scan (fun i => S.vertBad (x.verts.getD i.toNat (zero .vert))) (n) i' = S.scan (fun i => S.vertBad (x.verts.getD i.toNat (zero .vert))) (x.verts.length) 0 := hI.2.2.2
  subst e0
  have hQ1 := hQ.1
  have hQ2 := hQ.2
  clear hI hQ
  generalize S.scan (fun i => S.vertBad (x'.verts.getD i.toNat (zero .vert))) (x'.verts.length) 0 = res at hs hQ1 hQ2
  suffices hnf : (decide (i' < (↑x'.verts.length : Int)) = true → inb i' x'.verts.length = true ∧ (!!decide ((x'.verts.getD i'.toNat (zero K.vert)).kind < (1 : Int)) || inb i' x'.verts.length) = true ∧ (!!(decide ((x'.verts.getD i'.toNat (zero K.vert)).kind < (1 : Int)) || decide ((x'.verts.getD i'.toNat (zero K.vert)).kind > (2 : Int))) || inb i' x'.verts.length) = true ∧ ((decide ((x'.verts.getD i'.toNat (zero K.vert)).kind < (1 : Int)) || decide ((x'.verts.getD i'.toNat (zero K.vert)).kind > (2 : Int)) || !S.rightA (x'.verts.getD i'.toNat (zero K.vert)).id) = true → Q Exit.ret { s := [((2 : Nat), AV.v (V1.c (C.val (Value.bool false))))], b := [] : St }) ∧ ((decide ((x'.verts.getD i'.toNat (zero K.vert)).kind < (1 : Int)) || decide ((x'.verts.getD i'.toNat (zero K.vert)).kind > (2 : Int)) || !S.rightA (x'.verts.getD i'.toNat (zero K.vert)).id) = false → ∃ n', n' < n ∧ x' = x' ∧ (0 : Int) ≤ IntKind.i64.wrap (i' + (1 : Int)) ∧ IntKind.i64.wrap (i' + (1 : Int)) + (↑n' : Int) = (↑x'.verts.length : Int) ∧ S.scan (fun i => S.vertBad (x'.verts.getD i.toNat (zero K.vert))) n' (IntKind.i64.wrap (i' + (1 : Int))) = res)) ∧ (decide (i' < (↑x'.verts.length : Int)) = false → Q (Exit.exit (4 : Nat)) { s := [], b := [] : St }) by (apply nfto hnf; kernel_rfl)
  cases n with
  | zero =>
    have hno : ¬ i' < ((x'.verts.length : Nat) : Int) := by omega
    exact ⟨fun h => absurd (of_decide_eq_true h) hno, fun _ => hQ2 (by rw [← hs]; rfl)⟩
  | succ n =>
    simp only [S.scan] at hs
    have hib : inb i' (x'.verts.length) = true := by rw [inb_iff]; omega
    have hw : IntKind.i64.wrap (i' + 1) = i' + 1 := wrap_id (by omega) (by omega)
    rw [hw]
    refine ⟨fun _ => ⟨hib, by rw [hib]; simp, by rw [hib]; simp, fun h => ?_, fun h => ?_⟩, fun h => ?_⟩
    · rw [if_pos (show (S.vertBad (x'.verts.getD i'.toNat (zero .vert))) = true from h)] at hs
      have := hQ1 (by rw [← hs]; rfl)
      exact this
    · rw [if_neg (by rw [show (S.vertBad (x'.verts.getD i'.toNat (zero .vert))) = false from h]; decide)] at hs
      exact ⟨n, by omega, rfl, by omega, by omega, hs⟩
    · have := of_decide_eq_false h
      omega
def S.links0 (x : Lsa) : Bool := (S.scan (fun i => S.linkBad (x.links.getD i.toNat (zero .link))) x.links.length 0).isSome
def S.routers0 (x : Lsa) : Bool := (S.scan (fun i => !(S.rightA (x.routers.getD i.toNat 0))) x.routers.length 0).isSome
def S.verts0 (x : Lsa) : Bool := (S.scan (fun i => S.vertBad (x.verts.getD i.toNat (zero .vert))) x.verts.length 0).isSome
theorem loops57 : ∀ c', c' ∈ loopsOf (bodyOf Try.f57) → ∀ lc, look [(7, lc57a), (13, lc57b), (18, lc57c)] (headId c') = some lc → LoopOK Try.prog 180 c' lc := by
  have h : loopsOf (bodyOf Try.f57) = [c57a, c57b, c57c] := by kernel_rfl
  have h1 : headId c57a = 7 := by kernel_rfl
  have h2 : headId c57b = 13 := by kernel_rfl
  have h3 : headId c57c = 18 := by kernel_rfl
  rw [h]
  intro c' hc lc hlc
  simp only [List.mem_cons, List.not_mem_nil, or_false] at hc
  rcases hc with rfl | rfl | rfl
  · rw [h1] at hlc; obtain rfl := Option.some.inj hlc; exact lok57a
  · rw [h2] at hlc; obtain rfl := Option.some.inj hlc; exact lok57b
  · rw [h3] at hlc; obtain rfl := Option.some.inj hlc; exact lok57c
def S.big1 (x : Lsa) : Bool := !S.headOk x.head || decide (x.flags < 0) || decide (x.flags > 255) || decide ((x.links.length : Int) > 64) || decide (x.bits < 0) || decide (x.bits > 32) || decide ((x.routers.length : Int) > 64) || decide ((x.verts.length : Int) > 64)
def S.big2 (x : Lsa) : Bool := x.head.kind != 1 && (x.flags != 0 || decide ((x.links.length : Int) > 0)) || x.head.kind != 2 && (x.bits != 0 || decide ((x.routers.length : Int) > 0)) || x.head.kind != 6 && decide ((x.verts.length : Int) > 0)
def S.rightLsa (x : Lsa) : Bool := !(S.big1 x || S.big2 x || S.links0 x || S.routers0 x || S.verts0 x)
def sm57 : Summary := mkSm [.lsa] (fun _ => []) fun ((x : Lsa), _) => .fresh (.v (.c (bo (S.rightLsa x))))
theorem ok57 : SumOK Try.prog 57 sm57 := by
  refine sum_ev Try.f57 (lv := lv57) (lcs := [(7, lc57a), (13, lc57b), (18, lc57c)]) (sig := sg57) (by kernel_rfl) ⟨by kernel_rfl, by kernel_rfl, by kernel_rfl⟩ sok57 loops57 ?_
  rintro ⟨(x : Lsa), _⟩ hpre
  suffices hnf : ((!S.headOk x.head || decide (x.flags < (0 : Int)) || decide (x.flags > (255 : Int)) || decide ((↑x.links.length : Int) > (64 : Int)) || decide (x.bits < (0 : Int)) || decide (x.bits > (32 : Int)) || decide ((↑x.routers.length : Int) > (64 : Int)) || decide ((↑x.verts.length : Int) > (64 : Int))) = true → some (AV.v (V1.c (C.val (Value.bool false)))) = some (AV.v (V1.c (C.val (Value.bool (S.rightLsa x)))))) ∧ ((!S.headOk x.head || decide (x.flags < (0 : Int)) || decide (x.flags > (255 : Int)) || decide ((↑x.links.length : Int) > (64 : Int)) || decide (x.bits < (0 : Int)) || decide (x.bits > (32 : Int)) || decide ((↑x.routers.length : Int) > (64 : Int)) || decide ((↑x.verts.length : Int) > (64 : Int))) = false → ((x.head.kind != (1 : Int) && (x.flags != (0 : Int) || decide ((↑x.links.length : Int) > (0 : Int))) || x.head.kind != (2 : Int) && (x.bits != (0 : Int) || decide ((↑x.routers.length : Int) > (0 : Int))) || x.head.kind != (6 : Int) && decide ((↑x.verts.length : Int) > (0 : Int))) = true → some (AV.v (V1.c (C.val (Value.bool false)))) = some (AV.v (V1.c (C.val (Value.bool (S.rightLsa x)))))) ∧ ((x.head.kind != (1 : Int) && (x.flags != (0 : Int) || decide ((↑x.links.length : Int) > (0 : Int))) || x.head.kind != (2 : Int) && (x.bits != (0 : Int) || decide ((↑x.routers.length : Int) > (0 : Int))) || x.head.kind != (6 : Int) && decide ((↑x.verts.length : Int) > (0 : Int))) = false → true = true ∧ S.okLen x.links.length = true ∧ ((S.scan (fun i => S.linkBad (x.links.getD i.toNat (zero K.link))) x.links.length (0 : Int)).isSome = true → some (AV.v (V1.c (C.val (Value.bool false)))) = some (AV.v (V1.c (C.val (Value.bool (S.rightLsa x)))))) ∧ ((S.scan (fun i => S.linkBad (x.links.getD i.toNat (zero K.link))) x.links.length (0 : Int)).isSome = false → true = true ∧ S.okLen x.routers.length = true ∧ ((S.scan (fun i => !S.rightA (x.routers.getD i.toNat (0 : Int))) x.routers.length (0 : Int)).isSome = true → some (AV.v (V1.c (C.val (Value.bool false)))) = some (AV.v (V1.c (C.val (Value.bool (S.rightLsa x)))))) ∧ ((S.scan (fun i => !S.rightA (x.routers.getD i.toNat (0 : Int))) x.routers.length (0 : Int)).isSome = false → true = true ∧ S.okLen x.verts.length = true ∧ ((S.scan (fun i => S.vertBad (x.verts.getD i.toNat (zero K.vert))) x.verts.length (0 : Int)).isSome = true → some (AV.v (V1.c (C.val (Value.bool false)))) = some (AV.v (V1.c (C.val (Value.bool (S.rightLsa x)))))) ∧ ((S.scan (fun i => S.vertBad (x.verts.getD i.toNat (zero K.vert))) x.verts.length (0 : Int)).isSome = false → some (AV.v (V1.c (C.val (Value.bool true)))) = some (AV.v (V1.c (C.val (Value.bool (S.rightLsa x)))))))))) by (apply nfto hnf; kernel_rfl)
  have sz : S.big1 x = false → x.links.length ≤ 64 ∧ x.routers.length ≤ 64 ∧ x.verts.length ≤ 64 := fun h => by
    simp only [S.big1, Bool.or_eq_false_iff, decide_eq_false_iff_not] at h
    omega
  have e : ∀ b, S.rightLsa x = b → some (AV.v (V1.c (C.val (Value.bool b)))) = some (AV.v (V1.c (C.val (Value.bool (S.rightLsa x))))) := fun b h => by rw [h]
  refine ⟨fun a => e _ ?_, fun a => ⟨fun b => e _ ?_, fun b => ⟨rfl, ?_, fun c => e _ ?_, fun c => ⟨rfl, ?_, fun d => e _ ?_, fun d => ⟨rfl, ?_, fun f => e _ ?_, fun f => e _ ?_⟩⟩⟩⟩⟩
  · simp [S.rightLsa, show S.big1 x = true from a]
  · simp [S.rightLsa, show S.big2 x = true from b]
  · have := sz a; simp [S.okLen]; omega
  · simp [S.rightLsa, show S.links0 x = true from c]
  · have := sz a; simp [S.okLen]; omega
  · simp [S.rightLsa, show S.routers0 x = true from d]
  · have := sz a; simp [S.okLen]; omega
  · simp [S.rightLsa, show S.verts0 x = true from f]
  · simp [S.rightLsa, show S.big1 x = false from a, show S.big2 x = false from b, show S.links0 x = false from c, show S.routers0 x = false from d, show S.verts0 x = false from f]
/-! ### all of them -/
def S.sameKey (a b : Head) : Bool := a.kind == b.kind && (a.id == b.id && (a.adv == b.adv && true))
def sg23 : List (Nat × Summary) := [(56, sm56), (57, sm57), (58, sm58)]
theorem sok23 : SigOK Try.prog sg23 := sig_cons ok56 (sig_cons ok57 (sig_cons ok58 sig_nil))
def hd23b : List HK := [.av 0 (.sl .lsa), .av 3 .int, .av 4 .int]
def lc23b : LS := mkLS hd23b (fun ((ls : List Lsa), (a : Int), (k : Int), _) => [decide (k = 0), decide (0 ≤ a), decide (a < (ls.length : Int)), S.okLen ls.length]) fun ((ls : List Lsa), (a : Int), (k : Int), _) =>
  .two (S.scan (fun i => S.sameKey (ls.getD i.toNat (zero .lsa)).head (ls.getD a.toNat (zero .lsa)).head) (a.toNat) 0).isSome .ret ⟨[(2, .v (.c (bo false)))], []⟩ (.exit 2) ⟨[(0, .v (.c (.sl .lsa ls))), (3, .v (.c (i64 a)))], []⟩
noncomputable def c23b : Code := sub (bodyOf Try.f23) [1, 1, 0, 1, 0, 0, 1, 0, 0, 1, 1, 0, 0]
theorem lok23b : LoopOK Try.prog 45 c23b lc23b := by
  refine loop_ev (sig := sg23) (lcs := []) (lv := lv23) c23b (fun v => by kernel_rfl) sok23 (no_loops (by kernel_rfl)) ?_
  rintro ⟨(ls : List Lsa), (a : Int), (k0 : Int), _⟩ hpre
  have hp : k0 = 0 ∧ 0 ≤ a ∧ a < (ls.length : Int) ∧ S.okLen ls.length = true := by simpa using hpre
  have hp0 := hp.1
  have hp1 := hp.2.1
  have hp2 := hp.2.2.1
  have hp3 := hp.2.2.2
  subst hp0
  have hl := okLen_r hp3
  clear hp hpre
  refine ⟨fun n u => u.1 = ls ∧ u.2.1 = a ∧ 0 ≤ (u.2.2.1 : Int) ∧ (u.2.2.1 : Int) + n = ((a.toNat : Nat) : Int) ∧ S.scan (fun i => S.sameKey (ls.getD i.toNat (zero .lsa)).head (ls.getD a.toNat (zero .lsa)).head) n u.2.2.1 = S.scan (fun i => S.sameKey (ls.getD i.toNat (zero .lsa)).head (ls.getD a.toNat (zero .lsa)).head) (a.toNat) 0, (a.toNat) - (0 : Nat), ⟨rfl, rfl, Int.le_refl 0, by first | exact Int.zero_add _ | (show (0 : Int) + _ = _; omega), rfl⟩, ?_⟩
  rintro Q hQ n ⟨(ls' : List Lsa), (a' : Int), (k' : Int), _⟩ hI
  have e0 : ls' = ls := hI.1
  have e1 : a' = a := hI.2.1
  have h0 : 0 ≤ k' := hI.2.2.1
  have hn : k' + n = ((a.toNat : Nat) : Int) := hI.2.2.2.1
  have hs : S.scan (fun i => S.sameKey (ls.getD i.toNat (zero .lsa)).head (ls.getD a.toNat (zero .lsa)).head) (n) k' = S.scan (fun i => S.sameKey (ls.getD i.toNat (zero .lsa)).head (ls.getD a.toNat (zero .lsa)).head) (a.toNat) 0 := hI.2.2.2.2
  subst e0
  subst e1
  have hQ1 := hQ.1
  have hQ2 := hQ.2
  clear hI hQ
  generalize S.scan (fun i => S.sameKey (ls'.getD i.toNat (zero .lsa)).head (ls'.getD a'.toNat (zero .lsa)).head) (a'.toNat) 0 = res at hs hQ1 hQ2
  suffices hnf : (decide (k' < a') = true → inb k' ls'.length = true ∧ inb a' ls'.length = true ∧ (((ls'.getD k'.toNat (zero K.lsa)).head.kind == (ls'.getD a'.toNat (zero K.lsa)).head.kind && ((ls'.getD k'.toNat (zero K.lsa)).head.id == (ls'.getD a'.toNat (zero K.lsa)).head.id && ((ls'.getD k'.toNat (zero K.lsa)).head.adv == (ls'.getD a'.toNat (zero K.lsa)).head.adv && true))) = true → Q Exit.ret { s := [((2 : Nat), AV.v (V1.c (C.val (Value.bool false))))], b := [] : St }) ∧ (((ls'.getD k'.toNat (zero K.lsa)).head.kind == (ls'.getD a'.toNat (zero K.lsa)).head.kind && ((ls'.getD k'.toNat (zero K.lsa)).head.id == (ls'.getD a'.toNat (zero K.lsa)).head.id && ((ls'.getD k'.toNat (zero K.lsa)).head.adv == (ls'.getD a'.toNat (zero K.lsa)).head.adv && true))) = false → ∃ n', n' < n ∧ ls' = ls' ∧ a' = a' ∧ (0 : Int) ≤ IntKind.i64.wrap (k' + (1 : Int)) ∧ IntKind.i64.wrap (k' + (1 : Int)) + (↑n' : Int) = (↑a'.toNat : Int) ∧ S.scan (fun i => S.sameKey (ls'.getD i.toNat (zero K.lsa)).head (ls'.getD a'.toNat (zero K.lsa)).head) n' (IntKind.i64.wrap (k' + (1 : Int))) = res)) ∧ (decide (k' < a') = false → Q (Exit.exit (2 : Nat)) { s := [((0 : Nat), AV.v (V1.c (C.sl K.lsa ls'))), ((3 : Nat), AV.v (V1.c (C.val (Value.int IntKind.i64 a'))))], b := [] : St }) by (apply nfto hnf; kernel_rfl)
  cases n with
  | zero =>
    have hno : ¬ k' < ((a'.toNat : Nat) : Int) := by omega
    exact ⟨fun h => by have := of_decide_eq_true h; omega, fun _ => hQ2 (by rw [← hs]; rfl)⟩
  | succ n =>
    simp only [S.scan] at hs
    have hib : inb k' (a'.toNat) = true := by rw [inb_iff]; omega
    have hib1 : inb k' ls'.length = true := by rw [inb_iff]; omega
    have hib2 : inb a' ls'.length = true := by rw [inb_iff]; omega
    have hw : IntKind.i64.wrap (k' + 1) = k' + 1 := wrap_id (by omega) (by omega)
    rw [hw]
    refine ⟨fun _ => ⟨hib1, hib2, fun h => ?_, fun h => ?_⟩, fun h => ?_⟩
    · rw [if_pos (show S.sameKey _ _ = true from h)] at hs
      have := hQ1 (by rw [← hs]; rfl)
      exact this
    · rw [if_neg (by rw [show S.sameKey _ _ = false from h]; decide)] at hs
      exact ⟨n, by omega, rfl, rfl, by omega, by omega, hs⟩
    · have := of_decide_eq_false h
      omega
def S.keyAt (ls : List Lsa) (a : Int) : Option Int := S.scan (fun i => S.sameKey (ls.getD i.toNat (zero .lsa)).head (ls.getD a.toNat (zero .lsa)).head) (a.toNat) 0
def S.badAt (ls : List Lsa) (i : Int) : Bool := (S.great (ls.getD i.toNat (zero .lsa)) || !(S.rightLsa (ls.getD i.toNat (zero .lsa)))) || (S.keyAt ls i).isSome
def hd23a : List HK := [.av 0 (.sl .lsa), .av 3 .int]
def lc23a : LS := mkLS hd23a (fun ((ls : List Lsa), (k : Int), _) => [decide (k = 0), S.okLen ls.length]) fun ((ls : List Lsa), (k : Int), _) =>
  .two (S.scan (fun i => S.badAt ls i) (ls.length) 0).isSome .ret ⟨[(2, .v (.c (bo false)))], []⟩ (.exit 0) ⟨[], []⟩
noncomputable def c23a : Code := sub (bodyOf Try.f23) [1, 1, 0, 1, 0, 0]
theorem lok23a : LoopOK Try.prog 45 c23a lc23a := by
  refine loop_ev (sig := sg23) (lcs := [(9, lc23b)]) (lv := lv23) c23a (fun v => by kernel_rfl) sok23 (one_loop (c := c23b) (by kernel_rfl) lok23b) ?_
  rintro ⟨(ls : List Lsa), (k0 : Int), _⟩ hpre
  have hp : k0 = 0 ∧ S.okLen ls.length = true := by simpa using hpre
  have hp0 := hp.1
  have hp1 := hp.2
  subst hp0
  have hl := okLen_r hp1
  clear hp hpre
  refine ⟨fun n u => u.1 = ls ∧ 0 ≤ (u.2.1 : Int) ∧ (u.2.1 : Int) + n = ((ls.length : Nat) : Int) ∧ S.scan (fun i => S.badAt ls i) n u.2.1 = S.scan (fun i => S.badAt ls i) (ls.length) 0, (ls.length) - (0 : Nat), ⟨rfl, Int.le_refl 0, by first | exact Int.zero_add _ | (show (0 : Int) + _ = _; omega), rfl⟩, ?_⟩
  rintro Q hQ n ⟨(ls' : List Lsa), (k' : Int), _⟩ hI
  have e0 : ls' = ls := hI.1
  have h0 : 0 ≤ k' := hI.2.1
  have hn : k' + n = ((ls.length : Nat) : Int) := hI.2.2.1
  have hs : S.scan (fun i => S.badAt ls i) (n) k' = S.scan (fun i => S.badAt ls i) (ls.length) 0 := hI.2.2.2
  subst e0
  have hQ1 := hQ.1
  have hQ2 := hQ.2
  clear hI hQ
  generalize S.scan (fun i => S.badAt ls' i) (ls'.length) 0 = res at hs hQ1 hQ2
  suffices hnf : (decide (k' < (↑ls'.length : Int)) = true → inb k' ls'.length = true ∧ (!!S.great (ls'.getD k'.toNat (zero K.lsa)) || inb k' ls'.length) = true ∧ ((S.great (ls'.getD k'.toNat (zero K.lsa)) || !S.rightLsa (ls'.getD k'.toNat (zero K.lsa))) = true → Q Exit.ret { s := [((2 : Nat), AV.v (V1.c (C.val (Value.bool false))))], b := [] : St }) ∧ ((S.great (ls'.getD k'.toNat (zero K.lsa)) || !S.rightLsa (ls'.getD k'.toNat (zero K.lsa))) = false → true = true ∧ decide ((0 : Int) ≤ k') = true ∧ decide (k' < (↑ls'.length : Int)) = true ∧ S.okLen ls'.length = true ∧ ((S.scan (fun i => S.sameKey (ls'.getD i.toNat (zero K.lsa)).head (ls'.getD k'.toNat (zero K.lsa)).head) k'.toNat (0 : Int)).isSome = true → Q Exit.ret { s := [((2 : Nat), AV.v (V1.c (C.val (Value.bool false))))], b := [] : St }) ∧ ((S.scan (fun i => S.sameKey (ls'.getD i.toNat (zero K.lsa)).head (ls'.getD k'.toNat (zero K.lsa)).head) k'.toNat (0 : Int)).isSome = false → ∃ n', n' < n ∧ ls' = ls' ∧ (0 : Int) ≤ IntKind.i64.wrap (k' + (1 : Int)) ∧ IntKind.i64.wrap (k' + (1 : Int)) + (↑n' : Int) = (↑ls'.length : Int) ∧ S.scan (fun i => S.badAt ls' i) n' (IntKind.i64.wrap (k' + (1 : Int))) = res))) ∧ (decide (k' < (↑ls'.length : Int)) = false → Q (Exit.exit (0 : Nat)) { s := [], b := [] : St }) by (apply nfto hnf; kernel_rfl)
  cases n with
  | zero =>
    have hno : ¬ k' < ((ls'.length : Nat) : Int) := by omega
    exact ⟨fun h => absurd (of_decide_eq_true h) hno, fun _ => hQ2 (by rw [← hs]; rfl)⟩
  | succ n =>
    simp only [S.scan] at hs
    have hib : inb k' (ls'.length) = true := by rw [inb_iff]; omega
    have hw : IntKind.i64.wrap (k' + 1) = k' + 1 := wrap_id (by omega) (by omega)
    rw [hw]
    have bad : S.badAt ls' k' = true → Q .ret ⟨[(2, .v (.c (bo false)))], []⟩ := fun h => by
      rw [if_pos h] at hs
      exact hQ1 (by rw [← hs]; rfl)
    refine ⟨fun _ => ⟨hib, by rw [hib]; simp, fun a => bad ?_, fun a => ⟨rfl, decide_eq_true h0, decide_eq_true (by omega), hp1, fun b => bad ?_, fun b => ?_⟩⟩, fun h => ?_⟩
    · simp only [S.badAt, a, Bool.true_or]
    · simp only [S.badAt, show (S.keyAt ls' k').isSome = true from b, Bool.or_true]
    · have : S.badAt ls' k' = false := by simp only [S.badAt, a, show (S.keyAt ls' k').isSome = false from b, Bool.or_false]
      rw [if_neg (by rw [this]; decide)] at hs
      exact ⟨n, by omega, rfl, by omega, by omega, hs⟩
    · have := of_decide_eq_false h
      omega
def S.right (ls : List Lsa) : Bool := if decide ((ls.length : Int) > 40) then false else !(S.scan (fun i => S.badAt ls i) ls.length 0).isSome
def sm23 : Summary := mkSm [.sl .lsa] (fun _ => []) fun ((ls : List Lsa), _) => .fresh (.v (.c (bo (S.right ls))))
theorem ok23 : SumOK Try.prog 23 sm23 := by
  refine sum_ev Try.f23 (lv := lv23) (lcs := [(4, lc23a)]) (sig := []) (by kernel_rfl) ⟨by kernel_rfl, by kernel_rfl, by kernel_rfl⟩ sig_nil (one_loop (c := c23a) (by kernel_rfl) lok23a) ?_
  rintro ⟨(ls : List Lsa), _⟩ hpre
  suffices hnf : (decide ((↑ls.length : Int) > (40 : Int)) = true → some (AV.v (V1.c (C.val (Value.bool false)))) = some (AV.v (V1.c (C.val (Value.bool (S.right ls)))))) ∧ (decide ((↑ls.length : Int) > (40 : Int)) = false → true = true ∧ S.okLen ls.length = true ∧ ((S.scan (fun i => S.badAt ls i) ls.length (0 : Int)).isSome = true → some (AV.v (V1.c (C.val (Value.bool false)))) = some (AV.v (V1.c (C.val (Value.bool (S.right ls)))))) ∧ ((S.scan (fun i => S.badAt ls i) ls.length (0 : Int)).isSome = false → some (AV.v (V1.c (C.val (Value.bool true)))) = some (AV.v (V1.c (C.val (Value.bool (S.right ls))))))) by (apply nfto hnf; kernel_rfl)
  refine ⟨fun h => ?_, fun h => ?_⟩
  · rw [S.right, if_pos h]
  · have h2 := of_decide_eq_false h
    refine ⟨rfl, by simp [S.okLen]; omega, fun a => ?_, fun a => ?_⟩
    · rw [S.right, if_neg (by rw [h]; decide), a]; rfl
    · rw [S.right, if_neg (by rw [h]; decide), a]; rfl

end Go.Proofs.Ytoknhjmcoleejaa
