/- An advertisement found; the vertices. No condition. -/
import Derived.Test.YtoknhjmcoleejaaFC
import Derived.Test.YtoknhjmcoleejaaGE
set_option linter.unusedVariables false
set_option linter.unusedSimpArgs false
namespace Go.Proofs.Ytoknhjmcoleejaa
open Go.RowKit
def lv51 : List (Nat × List Nat) := [(0, [0, 3, 4]), (1, [0, 3, 4, 6, 7]), (2, [0, 3, 4, 6, 7, 8]), (3, [0, 3, 4, 6, 7, 8, 15]), (4, [0, 3, 4, 6, 7, 8]), (5, [0, 3, 4, 6, 7, 8, 9]), (6, [0, 3, 4, 6, 7, 8, 9, 10]), (7, [0, 3, 4, 6, 7, 8, 72]), (8, [0, 3, 4, 6, 8]), (9, [0, 3, 4, 6, 7, 8]), (10, [4, 5]), (1000000, [4, 6, 7]), (1000001, [0, 3, 4, 6, 7, 8])]
/-- A row gone through from i on, n elements. -/
def S.iter {α σ : Type} (f : σ → α → σ) (xs : List α) (d : α) : Nat → Int → σ → σ
  | 0, _, s => s
  | n + 1, i, s => S.iter f xs d n (i + 1) (f s (xs.getD i.toNat d))
/-! ### find -/
def S.isOf (v : Vert) (h : Head) : Bool := ((v.kind == 1 && h.kind == 1) && h.id == h.adv) || (v.kind == 2 && h.kind == 2)
def S.findC (v : Vert) (o : Lsa) (ok : Bool) (l : Lsa) : Bool := ((decide (l.head.age < 3600) && S.isOf v l.head) && l.head.id == v.id) && (!ok || decide (l.head.adv < o.head.adv))
def S.findStep (v : Vert) (o : Lsa × Bool) (l : Lsa) : Lsa × Bool := if S.findC v o.1 o.2 l then (l, true) else o
def S.find (ls : List Lsa) (v : Vert) : Lsa × Bool := S.iter (S.findStep v) ls (zero .lsa) ls.length 0 (zero .lsa, false)
def hd51 : List HK := [.av 0 (.sl .lsa), .box 3 3 .vert 38, .box 4 4 .lsa 48, .box 6 6 .lsa 48, .av 7 .bool, .av 8 .int]
def lc51 : LS := mkLS hd51 (fun ((ls : List Lsa), (v : Vert), (y : Lsa), (o : Lsa), (ok : Bool), (i : Int), _) => [decide (i = 0), S.okLen ls.length]) fun ((ls : List Lsa), (v : Vert), (y : Lsa), (o : Lsa), (ok : Bool), (i : Int), _) =>
  .one (.exit 0) ⟨[(4, .v (.c (.ptr 4 0))), (6, .v (.c (.ptr 6 0))), (7, .v (.c (bo (S.iter (S.findStep v) ls (zero .lsa) ls.length 0 (o, ok)).2)))],
    [(4, .box (cells .lsa y) 48), (6, .box (cells .lsa (S.iter (S.findStep v) ls (zero .lsa) ls.length 0 (o, ok)).1) 48)]⟩
noncomputable def c51 : Code := sub (bodyOf Try.f51) [1,1,0,1,0,0]
theorem lok51 : LoopOK Try.prog 79 c51 lc51 := by
  refine loop_ev (sig := []) (lcs := []) (lv := lv51) c51 (fun v => by kernel_rfl) sig_nil (no_loops (by kernel_rfl)) ?_
  rintro ⟨(ls : List Lsa), (v : Vert), (y : Lsa), (o : Lsa), (ok : Bool), (i0 : Int), _⟩ hpre
  have hp : i0 = 0 ∧ S.okLen ls.length = true := by simpa using hpre
  obtain ⟨rfl, hl⟩ := hp
  have hl := okLen_r hl
  refine ⟨fun n u => u.1 = ls ∧ u.2.1 = v ∧ u.2.2.1 = y ∧ 0 ≤ (u.2.2.2.2.2.1 : Int) ∧ (u.2.2.2.2.2.1 : Int) + n = ls.length ∧ S.iter (S.findStep v) ls (zero .lsa) n u.2.2.2.2.2.1 (u.2.2.2.1, u.2.2.2.2.1) = S.iter (S.findStep v) ls (zero .lsa) ls.length 0 (o, ok), ls.length, ⟨rfl, rfl, rfl, Int.le_refl 0, Int.zero_add _, rfl⟩, ?_⟩
  rintro Q hQ n ⟨(ls' : List Lsa), (v' : Vert), (y' : Lsa), (o' : Lsa), (ok' : Bool), (i : Int), _⟩ hI
  have h1 : ls' = ls := hI.1
  have h2 : v' = v := hI.2.1
  have h3 : y' = y := hI.2.2.1
  have h0 : 0 ≤ i := hI.2.2.2.1
  have hn : i + n = ls.length := hI.2.2.2.2.1
  have hs : S.iter (S.findStep v) ls (zero .lsa) n i (o', ok') = S.iter (S.findStep v) ls (zero .lsa) ls.length 0 (o, ok) := hI.2.2.2.2.2
  have hQ1 : Q (.exit 0) ⟨[(4, .v (.c (.ptr 4 0))), (6, .v (.c (.ptr 6 0))), (7, .v (.c (bo (S.iter (S.findStep v) ls (zero .lsa) ls.length 0 (o, ok)).2)))],
    [(4, .box (cells .lsa y) 48), (6, .box (cells .lsa (S.iter (S.findStep v) ls (zero .lsa) ls.length 0 (o, ok)).1) 48)]⟩ := hQ
  subst h1 h2 h3
  clear hI
  generalize S.iter (S.findStep v') ls' (zero .lsa) ls'.length 0 (o, ok) = res at hs hQ1
  suffices hnf : (decide (i < (↑ls'.length : Int)) = true → inb i ls'.length = true ∧ ((decide ((ls'.getD i.toNat (zero K.lsa)).head.age < (3600 : Int)) && (v'.kind == (1 : Int) && (ls'.getD i.toNat (zero K.lsa)).head.kind == (1 : Int) && (ls'.getD i.toNat (zero K.lsa)).head.id == (ls'.getD i.toNat (zero K.lsa)).head.adv || v'.kind == (2 : Int) && (ls'.getD i.toNat (zero K.lsa)).head.kind == (2 : Int)) && (ls'.getD i.toNat (zero K.lsa)).head.id == v'.id && (!ok' || decide ((ls'.getD i.toNat (zero K.lsa)).head.adv < o'.head.adv))) = true → inb i ls'.length = true ∧ ∃ n', n' < n ∧ ls' = ls' ∧ v' = v' ∧ y' = y' ∧ (0 : Int) ≤ IntKind.i64.wrap (i + (1 : Int)) ∧ IntKind.i64.wrap (i + (1 : Int)) + (↑n' : Int) = (↑ls'.length : Int) ∧ S.iter (S.findStep v') ls' (zero K.lsa) n' (IntKind.i64.wrap (i + (1 : Int))) (ls'.getD i.toNat (zero K.lsa), true) = res) ∧ ((decide ((ls'.getD i.toNat (zero K.lsa)).head.age < (3600 : Int)) && (v'.kind == (1 : Int) && (ls'.getD i.toNat (zero K.lsa)).head.kind == (1 : Int) && (ls'.getD i.toNat (zero K.lsa)).head.id == (ls'.getD i.toNat (zero K.lsa)).head.adv || v'.kind == (2 : Int) && (ls'.getD i.toNat (zero K.lsa)).head.kind == (2 : Int)) && (ls'.getD i.toNat (zero K.lsa)).head.id == v'.id && (!ok' || decide ((ls'.getD i.toNat (zero K.lsa)).head.adv < o'.head.adv))) = false → ∃ n', n' < n ∧ ls' = ls' ∧ v' = v' ∧ y' = y' ∧ (0 : Int) ≤ IntKind.i64.wrap (i + (1 : Int)) ∧ IntKind.i64.wrap (i + (1 : Int)) + (↑n' : Int) = (↑ls'.length : Int) ∧ S.iter (S.findStep v') ls' (zero K.lsa) n' (IntKind.i64.wrap (i + (1 : Int))) (o', ok') = res)) ∧ (decide (i < (↑ls'.length : Int)) = false → Q (Exit.exit (0 : Nat)) { s := [((4 : Nat), AV.v (V1.c (C.ptr (4 : Nat) (0 : Nat)))), ((6 : Nat), AV.v (V1.c (C.ptr (6 : Nat) (0 : Nat)))), ((7 : Nat), AV.v (V1.c (C.val (Value.bool ok'))))], b := [((4 : Nat), Blk.box [C.val (Value.int IntKind.i64 y'.head.age), C.val (Value.int IntKind.i64 y'.head.kind), C.val (Value.int IntKind.i64 y'.head.id), C.val (Value.int IntKind.i64 y'.head.adv), C.val (Value.int IntKind.i64 y'.head.seq), C.val (Value.int IntKind.i64 y'.head.sum), C.val (Value.int IntKind.i64 y'.head.len), C.val (Value.int IntKind.i64 y'.flags), C.sl K.link y'.links, C.val (Value.int IntKind.i64 y'.bits), C.sl K.int y'.routers, C.sl K.vert y'.verts] (48 : Nat)), ((6 : Nat), Blk.box [C.val (Value.int IntKind.i64 o'.head.age), C.val (Value.int IntKind.i64 o'.head.kind), C.val (Value.int IntKind.i64 o'.head.id), C.val (Value.int IntKind.i64 o'.head.adv), C.val (Value.int IntKind.i64 o'.head.seq), C.val (Value.int IntKind.i64 o'.head.sum), C.val (Value.int IntKind.i64 o'.head.len), C.val (Value.int IntKind.i64 o'.flags), C.sl K.link o'.links, C.val (Value.int IntKind.i64 o'.bits), C.sl K.int o'.routers, C.sl K.vert o'.verts] (48 : Nat))] : St }) by (apply nfto hnf; kernel_rfl)
  cases n with
  | zero =>
    have : ¬ i < ls'.length := by omega
    refine ⟨fun h => absurd (of_decide_eq_true h) this, fun _ => ?_⟩
    rw [← hs] at hQ1; exact hQ1
  | succ n =>
    have hib : inb i ls'.length = true := by rw [inb_iff]; omega
    have hw : IntKind.i64.wrap (i + 1) = i + 1 := wrap_id (by omega) (by omega)
    simp only [S.iter] at hs
    refine ⟨fun _ => ⟨hib, fun h => ⟨hib, ?_⟩, fun h => ?_⟩, fun h => ?_⟩
    · have hc : S.findC v' o' ok' (ls'.getD i.toNat (zero .lsa)) = true := h
      simp only [S.findStep, hc, if_true] at hs
      exact ⟨n, by omega, rfl, rfl, rfl, by rw [hw]; omega, by rw [hw]; omega, by rw [hw]; exact hs⟩
    · have hc : S.findC v' o' ok' (ls'.getD i.toNat (zero .lsa)) = false := h
      simp only [S.findStep, hc, if_false, Bool.false_eq_true] at hs
      exact ⟨n, by omega, rfl, rfl, rfl, by rw [hw]; omega, by rw [hw]; omega, by rw [hw]; exact hs⟩
    · have : ¬ i < ls'.length := of_decide_eq_false h
      omega
def sm51 : Summary := mkSm [.sl .lsa, .vert] (fun ((ls : List Lsa), _) => [S.okLen ls.length]) fun ((ls : List Lsa), (v : Vert), _) => .lent (.tup [.agg (cells .lsa (S.find ls v).1), .c (bo (S.find ls v).2)])
theorem ok51 : SumOK Try.prog 51 sm51 := by
  refine sum_ev Try.f51 (lv := lv51) (lcs := [(3, lc51)]) (sig := []) (by kernel_rfl) ⟨by kernel_rfl, by kernel_rfl, by kernel_rfl⟩ sig_nil (one_loop (c := c51) (by kernel_rfl) lok51) ?_
  rintro ⟨(ls : List Lsa), (v : Vert), _⟩ hpre
  have hp : S.okLen ls.length = true := by simpa using hpre
  suffices hnf : true = true ∧ S.okLen ls.length = true ∧ some (AV.tup [V1.agg [C.val (Value.int IntKind.i64 (S.iter (S.findStep v) ls (zero K.lsa) ls.length (0 : Int) ({ head := { age := (0 : Int), kind := (0 : Int), id := (0 : Int), adv := (0 : Int), seq := (0 : Int), sum := (0 : Int), len := (0 : Int) : Head }, flags := (0 : Int), links := [], bits := (0 : Int), routers := [], verts := [] : Lsa }, false)).1.head.age), C.val (Value.int IntKind.i64 (S.iter (S.findStep v) ls (zero K.lsa) ls.length (0 : Int) ({ head := { age := (0 : Int), kind := (0 : Int), id := (0 : Int), adv := (0 : Int), seq := (0 : Int), sum := (0 : Int), len := (0 : Int) : Head }, flags := (0 : Int), links := [], bits := (0 : Int), routers := [], verts := [] : Lsa }, false)).1.head.kind), C.val (Value.int IntKind.i64 (S.iter (S.findStep v) ls (zero K.lsa) ls.length (0 : Int) ({ head := { age := (0 : Int), kind := (0 : Int), id := (0 : Int), adv := (0 : Int), seq := (0 : Int), sum := (0 : Int), len := (0 : Int) : Head }, flags := (0 : Int), links := [], bits := (0 : Int), routers := [], verts := [] : Lsa }, false)).1.head.id), C.val (Value.int IntKind.i64 (S.iter (S.findStep v) ls (zero K.lsa) ls.length (0 : Int) ({ head := { age := (0 : Int), kind := (0 : Int), id := (0 : Int), adv := (0 : Int), seq := (0 : Int), sum := (0 : Int), len := (0 : Int) : Head }, flags := (0 : Int), links := [], bits := (0 : Int), routers := [], verts := [] : Lsa }, false)).1.head.adv), C.val (Value.int IntKind.i64 (S.iter (S.findStep v) ls (zero K.lsa) ls.length (0 : Int) ({ head := { age := (0 : Int), kind := (0 : Int), id := (0 : Int), adv := (0 : Int), seq := (0 : Int), sum := (0 : Int), len := (0 : Int) : Head }, flags := (0 : Int), links := [], bits := (0 : Int), routers := [], verts := [] : Lsa }, false)).1.head.seq), C.val (Value.int IntKind.i64 (S.iter (S.findStep v) ls (zero K.lsa) ls.length (0 : Int) ({ head := { age := (0 : Int), kind := (0 : Int), id := (0 : Int), adv := (0 : Int), seq := (0 : Int), sum := (0 : Int), len := (0 : Int) : Head }, flags := (0 : Int), links := [], bits := (0 : Int), routers := [], verts := [] : Lsa }, false)).1.head.sum), C.val (Value.int IntKind.i64 (S.iter (S.findStep v) ls (zero K.lsa) ls.length (0 : Int) ({ head := { age := (0 : Int), kind := (0 : Int), id := (0 : Int), adv := (0 : Int), seq := (0 : Int), sum := (0 : Int), len := (0 : Int) : Head }, flags := (0 : Int), links := [], bits := (0 : Int), routers := [], verts := [] : Lsa }, false)).1.head.len), C.val (Value.int IntKind.i64 (S.iter (S.findStep v) ls (zero K.lsa) ls.length (0 : Int) ({ head := { age := (0 : Int), kind := (0 : Int), id := (0 : Int), adv := (0 : Int), seq := (0 : Int), sum := (0 : Int), len := (0 : Int) : Head }, flags := (0 : Int), links := [], bits := (0 : Int), routers := [], verts := [] : Lsa }, false)).1.flags), C.sl K.link (S.iter (S.findStep v) ls (zero K.lsa) ls.length (0 : Int) ({ head := { age := (0 : Int), kind := (0 : Int), id := (0 : Int), adv := (0 : Int), seq := (0 : Int), sum := (0 : Int), len := (0 : Int) : Head }, flags := (0 : Int), links := [], bits := (0 : Int), routers := [], verts := [] : Lsa }, false)).1.links, C.val (Value.int IntKind.i64 (S.iter (S.findStep v) ls (zero K.lsa) ls.length (0 : Int) ({ head := { age := (0 : Int), kind := (0 : Int), id := (0 : Int), adv := (0 : Int), seq := (0 : Int), sum := (0 : Int), len := (0 : Int) : Head }, flags := (0 : Int), links := [], bits := (0 : Int), routers := [], verts := [] : Lsa }, false)).1.bits), C.sl K.int (S.iter (S.findStep v) ls (zero K.lsa) ls.length (0 : Int) ({ head := { age := (0 : Int), kind := (0 : Int), id := (0 : Int), adv := (0 : Int), seq := (0 : Int), sum := (0 : Int), len := (0 : Int) : Head }, flags := (0 : Int), links := [], bits := (0 : Int), routers := [], verts := [] : Lsa }, false)).1.routers, C.sl K.vert (S.iter (S.findStep v) ls (zero K.lsa) ls.length (0 : Int) ({ head := { age := (0 : Int), kind := (0 : Int), id := (0 : Int), adv := (0 : Int), seq := (0 : Int), sum := (0 : Int), len := (0 : Int) : Head }, flags := (0 : Int), links := [], bits := (0 : Int), routers := [], verts := [] : Lsa }, false)).1.verts], V1.c (C.val (Value.bool (S.iter (S.findStep v) ls (zero K.lsa) ls.length (0 : Int) ({ head := { age := (0 : Int), kind := (0 : Int), id := (0 : Int), adv := (0 : Int), seq := (0 : Int), sum := (0 : Int), len := (0 : Int) : Head }, flags := (0 : Int), links := [], bits := (0 : Int), routers := [], verts := [] : Lsa }, false)).2))]) = some (AV.tup [V1.agg [C.val (Value.int IntKind.i64 (S.find ls v).1.head.age), C.val (Value.int IntKind.i64 (S.find ls v).1.head.kind), C.val (Value.int IntKind.i64 (S.find ls v).1.head.id), C.val (Value.int IntKind.i64 (S.find ls v).1.head.adv), C.val (Value.int IntKind.i64 (S.find ls v).1.head.seq), C.val (Value.int IntKind.i64 (S.find ls v).1.head.sum), C.val (Value.int IntKind.i64 (S.find ls v).1.head.len), C.val (Value.int IntKind.i64 (S.find ls v).1.flags), C.sl K.link (S.find ls v).1.links, C.val (Value.int IntKind.i64 (S.find ls v).1.bits), C.sl K.int (S.find ls v).1.routers, C.sl K.vert (S.find ls v).1.verts], V1.c (C.val (Value.bool (S.find ls v).2))]) by (apply nfto hnf; kernel_rfl)
  exact ⟨rfl, hp, rfl⟩
end Go.Proofs.Ytoknhjmcoleejaa
