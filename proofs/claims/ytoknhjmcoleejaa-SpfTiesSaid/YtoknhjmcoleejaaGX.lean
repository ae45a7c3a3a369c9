/- SpfTies: the loop. No condition. -/
import Derived.Test.YtoknhjmcoleejaaFC
import Derived.Test.YtoknhjmcoleejaaGS
set_option linter.unusedVariables false
set_option linter.unusedSimpArgs false
set_option maxHeartbeats 4000000
namespace Go.Proofs.Ytoknhjmcoleejaa
open Go.RowKit
def lv5 : List (Nat × List Nat) := [(0, [0, 1, 2]), (1, [1, 2, 7]), (2, [2, 7, 8]), (3, [2, 7, 8, 9]), (4, [2, 7, 8, 9, 10]), (5, [2, 7, 8, 9, 10, 11]), (6, [2, 8, 9, 10, 11, 12]), (7, [2, 8, 9, 10, 11, 12, 30]), (8, [2, 8, 9, 10, 11, 12]), (9, [2, 8, 9, 10, 11, 12, 13]), (10, [2, 8, 9, 10, 11, 12, 13]), (11, [2, 8, 9, 10, 11, 12, 13]), (12, [2, 8, 9, 10, 11, 12, 13]), (13, [2, 8, 9, 10, 11, 12]), (14, [2, 8, 9, 10, 11, 71]), (15, [2, 8, 9, 10, 11]), (16, [2, 8, 9, 10, 11]), (17, [2, 8, 9, 10, 11]), (18, [2, 8, 9]), (19, [2, 8, 14]), (20, [2, 8, 14, 15]), (21, [2, 14, 15, 122]), (22, [6]), (23, [2, 14, 15, 16]), (24, [2, 14, 15, 16, 135]), (25, [6]), (26, [14, 15, 16, 136]), (27, [6]), (28, [6]), (1000000, [2, 8, 9, 10, 11]), (1000001, [2, 8, 9, 10, 11, 12])]
/-! ### routers that tie -/
def S.tieX (c i : Int) : Lsa := ⟨⟨0, 1, i, i, 0, 0, 0⟩, 0, [⟨1, 1, IntKind.i64.wrap (100 + i), c⟩, ⟨1, 50, IntKind.i64.wrap (200 + i), c⟩], 0, [], []⟩
def S.tieStep (c i : Int) (s : List Lsa × Lsa × Lsa) : List Lsa × Lsa × Lsa :=
  (s.1 ++ [S.tieX c i], { s.2.1 with links := s.2.1.links ++ [⟨1, i, IntKind.i64.wrap (300 + i), c⟩] }, { s.2.2 with links := s.2.2.links ++ [⟨1, i, IntKind.i64.wrap (400 + i), c⟩] })
def S.ties (c : Int) : Nat → List Lsa × Lsa × Lsa → List Lsa × Lsa × Lsa
  | 0, s => s
  | n + 1, s => S.ties c n (S.tieStep c ((n : Int) + 2) s)
def hd5 : List HK := [.av 2 .bool, .av 8 .int, .deep 9 .lsa 9, .lsl 10 10 3, .lsl 11 11 4, .av 12 .int]
def lc5 : LS := mkLS hd5 (fun ((net : Bool), (c : Int), (o : List Lsa), (x : Lsa), (y : Lsa), (i : Int), _) => [decide (1 ≤ i), decide (i ≤ 7), decide (o.length = 0), decide (x.links.length = 0), decide (y.links.length = 0), decide (x.routers.length = 0), decide (x.verts.length = 0), decide (y.routers.length = 0), decide (y.verts.length = 0)]) fun ((net : Bool), (c : Int), (o : List Lsa), (x : Lsa), (y : Lsa), (i : Int), _) =>
  .one (.exit 0) ⟨[(2, .v (.c (bo net))), (8, .v (.c (i64 c))), (9, .v (.c (.own 9))), (10, .v (.c (.ptr 10 0))), (11, .v (.c (.ptr 11 0)))], [(3, .arr .link (S.ties c (i.toNat - 1) (o, x, y)).2.1.links), (4, .arr .link (S.ties c (i.toNat - 1) (o, x, y)).2.2.links), (9, .deep .lsa (S.ties c (i.toNat - 1) (o, x, y)).1 none), (10, .box [i64 (S.ties c (i.toNat - 1) (o, x, y)).2.1.head.age, i64 (S.ties c (i.toNat - 1) (o, x, y)).2.1.head.kind, i64 (S.ties c (i.toNat - 1) (o, x, y)).2.1.head.id, i64 (S.ties c (i.toNat - 1) (o, x, y)).2.1.head.adv, i64 (S.ties c (i.toNat - 1) (o, x, y)).2.1.head.seq, i64 (S.ties c (i.toNat - 1) (o, x, y)).2.1.head.sum, i64 (S.ties c (i.toNat - 1) (o, x, y)).2.1.head.len, i64 (S.ties c (i.toNat - 1) (o, x, y)).2.1.flags, .own 3, i64 (S.ties c (i.toNat - 1) (o, x, y)).2.1.bits, nilsl, nilsl] 48), (11, .box [i64 (S.ties c (i.toNat - 1) (o, x, y)).2.2.head.age, i64 (S.ties c (i.toNat - 1) (o, x, y)).2.2.head.kind, i64 (S.ties c (i.toNat - 1) (o, x, y)).2.2.head.id, i64 (S.ties c (i.toNat - 1) (o, x, y)).2.2.head.adv, i64 (S.ties c (i.toNat - 1) (o, x, y)).2.2.head.seq, i64 (S.ties c (i.toNat - 1) (o, x, y)).2.2.head.sum, i64 (S.ties c (i.toNat - 1) (o, x, y)).2.2.head.len, i64 (S.ties c (i.toNat - 1) (o, x, y)).2.2.flags, .own 4, i64 (S.ties c (i.toNat - 1) (o, x, y)).2.2.bits, nilsl, nilsl] 48)]⟩
noncomputable def c5 : Code := sub (bodyOf Try.f5) [1, 1, 1, 1, 1, 1, 0, 1, 0, 0]
theorem lok5 : LoopOK Try.prog 184 c5 lc5 := by
  refine loop_ev (sig := []) (lcs := []) (lv := lv5) c5 (fun v => by kernel_rfl) sig_nil (no_loops (by kernel_rfl)) ?_
  rintro ⟨(net : Bool), (c : Int), (o : List Lsa), (x : Lsa), (y : Lsa), (i : Int), _⟩ hpre
  have hp : 1 ≤ i ∧ i ≤ 7 ∧ o.length = 0 ∧ x.links.length = 0 ∧ y.links.length = 0 ∧ x.routers.length = 0 ∧ x.verts.length = 0 ∧ y.routers.length = 0 ∧ y.verts.length = 0 := by simpa using hpre
  have p1 := hp.1
  have p2 := hp.2.1
  have p3 := hp.2.2.1
  have p4 := hp.2.2.2.1
  have p5 := hp.2.2.2.2.1
  have p6 := hp.2.2.2.2.2.1
  have p7 := hp.2.2.2.2.2.2.1
  have p8 := hp.2.2.2.2.2.2.2.1
  have p9 := hp.2.2.2.2.2.2.2.2
  clear hp hpre
  refine ⟨fun n u => u.1 = net ∧ u.2.1 = c ∧ (u.2.2.2.2.2.1 : Int) = (n : Int) + 1 ∧ n ≤ 6 ∧ (u.2.2.1 : List Lsa).length + n ≤ 6 ∧ (u.2.2.2.1 : Lsa).links.length + n ≤ 6 ∧ (u.2.2.2.2.1 : Lsa).links.length + n ≤ 6 ∧ (u.2.2.2.1 : Lsa).routers = [] ∧ (u.2.2.2.1 : Lsa).verts = [] ∧ (u.2.2.2.2.1 : Lsa).routers = [] ∧ (u.2.2.2.2.1 : Lsa).verts = [] ∧ S.ties c n (u.2.2.1, u.2.2.2.1, u.2.2.2.2.1) = S.ties c (i.toNat - 1) (o, x, y),
    i.toNat - 1, ⟨rfl, rfl, (by show i = ((i.toNat - 1 : Nat) : Int) + 1; omega), (by show i.toNat - 1 ≤ 6; omega), (by show o.length + (i.toNat - 1) ≤ 6; omega), (by show x.links.length + (i.toNat - 1) ≤ 6; omega), (by show y.links.length + (i.toNat - 1) ≤ 6; omega), List.eq_nil_of_length_eq_zero p6, List.eq_nil_of_length_eq_zero p7, List.eq_nil_of_length_eq_zero p8, List.eq_nil_of_length_eq_zero p9, rfl⟩, ?_⟩
  rintro Q hQ n ⟨(net' : Bool), (c' : Int), (o' : List Lsa), (x' : Lsa), (y' : Lsa), (i' : Int), _⟩ hI
  have e0 : net' = net := hI.1
  have e1 : c' = c := hI.2.1
  have hi : i' = (n : Int) + 1 := hI.2.2.1
  have hn : n ≤ 6 := hI.2.2.2.1
  have ho : o'.length + n ≤ 6 := hI.2.2.2.2.1
  have hx : x'.links.length + n ≤ 6 := hI.2.2.2.2.2.1
  have hy : y'.links.length + n ≤ 6 := hI.2.2.2.2.2.2.1
  have hxr : x'.routers = [] := hI.2.2.2.2.2.2.2.1
  have hxv : x'.verts = [] := hI.2.2.2.2.2.2.2.2.1
  have hyr : y'.routers = [] := hI.2.2.2.2.2.2.2.2.2.1
  have hyv : y'.verts = [] := hI.2.2.2.2.2.2.2.2.2.2.1
  have hs : S.ties c n (o', x', y') = S.ties c (i.toNat - 1) (o, x, y) := hI.2.2.2.2.2.2.2.2.2.2.2
  subst e0
  subst e1
  have hQ1 : ∀ r : List Lsa × Lsa × Lsa, r = S.ties c' (i.toNat - 1) (o, x, y) → Q (.exit 0) ⟨[(2, .v (.c (bo net'))), (8, .v (.c (i64 c'))), (9, .v (.c (.own 9))), (10, .v (.c (.ptr 10 0))), (11, .v (.c (.ptr 11 0)))], [(3, .arr .link r.2.1.links), (4, .arr .link r.2.2.links), (9, .deep .lsa r.1 none), (10, .box [i64 r.2.1.head.age, i64 r.2.1.head.kind, i64 r.2.1.head.id, i64 r.2.1.head.adv, i64 r.2.1.head.seq, i64 r.2.1.head.sum, i64 r.2.1.head.len, i64 r.2.1.flags, .own 3, i64 r.2.1.bits, nilsl, nilsl] 48), (11, .box [i64 r.2.2.head.age, i64 r.2.2.head.kind, i64 r.2.2.head.id, i64 r.2.2.head.adv, i64 r.2.2.head.seq, i64 r.2.2.head.sum, i64 r.2.2.head.len, i64 r.2.2.flags, .own 4, i64 r.2.2.bits, nilsl, nilsl] 48)]⟩ := by
    intro r hr
    subst hr
    exact hQ
  clear hI hQ
  generalize S.ties c' (i.toNat - 1) (o, x, y) = res at hs hQ1
  suffices hnf : (decide (i' ≥ (2 : Int)) = true → roomy x'.links.length [{ kind := (1 : Int), id := i', data := IntKind.i64.wrap ((300 : Int) + i'), cost := c' : Link }].length (32 : Nat) = true ∧ roomy y'.links.length [{ kind := (1 : Int), id := i', data := IntKind.i64.wrap ((400 : Int) + i'), cost := c' : Link }].length (32 : Nat) = true ∧ roomy o'.length [{ head := { age := (0 : Int), kind := (1 : Int), id := i', adv := i', seq := (0 : Int), sum := (0 : Int), len := (0 : Int) : Head }, flags := (0 : Int), links := [{ kind := (1 : Int), id := (1 : Int), data := IntKind.i64.wrap ((100 : Int) + i'), cost := c' : Link }, { kind := (1 : Int), id := (50 : Int), data := IntKind.i64.wrap ((200 : Int) + i'), cost := c' : Link }], bits := (0 : Int), routers := [], verts := [] : Lsa }].length (144 : Nat) = true ∧ ∃ n', n' < n ∧ net' = net' ∧ c' = c' ∧ IntKind.i64.wrap (i' - (1 : Int)) = (↑n' : Int) + (1 : Int) ∧ n' ≤ (6 : Nat) ∧ (o' ++ [{ head := { age := (0 : Int), kind := (1 : Int), id := i', adv := i', seq := (0 : Int), sum := (0 : Int), len := (0 : Int) : Head }, flags := (0 : Int), links := [{ kind := (1 : Int), id := (1 : Int), data := IntKind.i64.wrap ((100 : Int) + i'), cost := c' : Link }, { kind := (1 : Int), id := (50 : Int), data := IntKind.i64.wrap ((200 : Int) + i'), cost := c' : Link }], bits := (0 : Int), routers := [], verts := [] : Lsa }]).length + n' ≤ (6 : Nat) ∧ { head := x'.head, flags := x'.flags, links := x'.links ++ [{ kind := (1 : Int), id := i', data := IntKind.i64.wrap ((300 : Int) + i'), cost := c' : Link }], bits := x'.bits, routers := [], verts := [] : Lsa }.links.length + n' ≤ (6 : Nat) ∧ { head := y'.head, flags := y'.flags, links := y'.links ++ [{ kind := (1 : Int), id := i', data := IntKind.i64.wrap ((400 : Int) + i'), cost := c' : Link }], bits := y'.bits, routers := [], verts := [] : Lsa }.links.length + n' ≤ (6 : Nat) ∧ { head := x'.head, flags := x'.flags, links := x'.links ++ [{ kind := (1 : Int), id := i', data := IntKind.i64.wrap ((300 : Int) + i'), cost := c' : Link }], bits := x'.bits, routers := [], verts := [] : Lsa }.routers = [] ∧ { head := x'.head, flags := x'.flags, links := x'.links ++ [{ kind := (1 : Int), id := i', data := IntKind.i64.wrap ((300 : Int) + i'), cost := c' : Link }], bits := x'.bits, routers := [], verts := [] : Lsa }.verts = [] ∧ { head := y'.head, flags := y'.flags, links := y'.links ++ [{ kind := (1 : Int), id := i', data := IntKind.i64.wrap ((400 : Int) + i'), cost := c' : Link }], bits := y'.bits, routers := [], verts := [] : Lsa }.routers = [] ∧ { head := y'.head, flags := y'.flags, links := y'.links ++ [{ kind := (1 : Int), id := i', data := IntKind.i64.wrap ((400 : Int) + i'), cost := c' : Link }], bits := y'.bits, routers := [], verts := [] : Lsa }.verts = [] ∧ S.ties c' n' (o' ++ [{ head := { age := (0 : Int), kind := (1 : Int), id := i', adv := i', seq := (0 : Int), sum := (0 : Int), len := (0 : Int) : Head }, flags := (0 : Int), links := [{ kind := (1 : Int), id := (1 : Int), data := IntKind.i64.wrap ((100 : Int) + i'), cost := c' : Link }, { kind := (1 : Int), id := (50 : Int), data := IntKind.i64.wrap ((200 : Int) + i'), cost := c' : Link }], bits := (0 : Int), routers := [], verts := [] : Lsa }], { head := x'.head, flags := x'.flags, links := x'.links ++ [{ kind := (1 : Int), id := i', data := IntKind.i64.wrap ((300 : Int) + i'), cost := c' : Link }], bits := x'.bits, routers := [], verts := [] : Lsa }, { head := y'.head, flags := y'.flags, links := y'.links ++ [{ kind := (1 : Int), id := i', data := IntKind.i64.wrap ((400 : Int) + i'), cost := c' : Link }], bits := y'.bits, routers := [], verts := [] : Lsa }) = res) ∧ (decide (i' ≥ (2 : Int)) = false → Q (Exit.exit (0 : Nat)) { s := [((2 : Nat), AV.v (V1.c (C.val (Value.bool net')))), ((8 : Nat), AV.v (V1.c (C.val (Value.int IntKind.i64 c')))), ((9 : Nat), AV.v (V1.c (C.own (9 : Nat)))), ((10 : Nat), AV.v (V1.c (C.ptr (10 : Nat) (0 : Nat)))), ((11 : Nat), AV.v (V1.c (C.ptr (11 : Nat) (0 : Nat))))], b := [((3 : Nat), Blk.arr K.link x'.links), ((4 : Nat), Blk.arr K.link y'.links), ((9 : Nat), Blk.deep K.lsa o' none), ((10 : Nat), Blk.box [C.val (Value.int IntKind.i64 x'.head.age), C.val (Value.int IntKind.i64 x'.head.kind), C.val (Value.int IntKind.i64 x'.head.id), C.val (Value.int IntKind.i64 x'.head.adv), C.val (Value.int IntKind.i64 x'.head.seq), C.val (Value.int IntKind.i64 x'.head.sum), C.val (Value.int IntKind.i64 x'.head.len), C.val (Value.int IntKind.i64 x'.flags), C.own (3 : Nat), C.val (Value.int IntKind.i64 x'.bits), C.val (Value.slice none (0 : Nat) (0 : Nat)), C.val (Value.slice none (0 : Nat) (0 : Nat))] (48 : Nat)), ((11 : Nat), Blk.box [C.val (Value.int IntKind.i64 y'.head.age), C.val (Value.int IntKind.i64 y'.head.kind), C.val (Value.int IntKind.i64 y'.head.id), C.val (Value.int IntKind.i64 y'.head.adv), C.val (Value.int IntKind.i64 y'.head.seq), C.val (Value.int IntKind.i64 y'.head.sum), C.val (Value.int IntKind.i64 y'.head.len), C.val (Value.int IntKind.i64 y'.flags), C.own (4 : Nat), C.val (Value.int IntKind.i64 y'.bits), C.val (Value.slice none (0 : Nat) (0 : Nat)), C.val (Value.slice none (0 : Nat) (0 : Nat))] (48 : Nat))] : St }) by (apply nfto hnf; kernel_rfl)
  obtain ⟨xh, xf, xl, xb, xr, xv⟩ := x'
  obtain rfl : xr = [] := hxr
  obtain rfl : xv = [] := hxv
  obtain ⟨yh, yf, yl, yb, yr, yv⟩ := y'
  obtain rfl : yr = [] := hyr
  obtain rfl : yv = [] := hyv
  cases n with
  | zero =>
    exact ⟨fun h => by have := of_decide_eq_true h; omega, fun _ => hQ1 _ hs⟩
  | succ n =>
    have hw : IntKind.i64.wrap (i' - 1) = i' - 1 := wrap_id (by omega) (by omega)
    rw [S.ties] at hs
    rw [hw]
    refine ⟨fun _ => ?_, fun h => by have := of_decide_eq_false h; omega⟩
    have hx1 : xl.length + (n + 1) ≤ 6 := hx
    have hy1 : yl.length + (n + 1) ≤ 6 := hy
    have r1 : roomy xl.length 1 32 = true := by rw [roomy_iff]; omega
    have r2 : roomy yl.length 1 32 = true := by rw [roomy_iff]; omega
    have r3 : roomy o'.length 1 144 = true := by rw [roomy_iff]; omega
    have ei : (n : Int) + 2 = i' := by omega
    rw [ei] at hs
    exact ⟨r1, r2, r3, n, by omega, rfl, rfl, by omega, by omega, by simp only [List.length_append, List.length_singleton]; omega, by simp only [List.length_append, List.length_singleton]; omega, by simp only [List.length_append, List.length_singleton]; omega, rfl, rfl, rfl, rfl, hs⟩

end Go.Proofs.Ytoknhjmcoleejaa
