/- The tree of the program, the best edge of a round. No condition. -/
import Derived.Test.YtoknhjmcoleejaaFC
import Derived.Test.YtoknhjmcoleejaaGL
set_option linter.unusedVariables false
set_option linter.unusedSimpArgs false
set_option maxHeartbeats 4000000
namespace Go.Proofs.Ytoknhjmcoleejaa
open Go.RowKit
/-! ### one round -/
def S.skips (is : List (Vert × Bool)) (place : List (Vert × Int)) (e : Edge) : Bool := (!((S.kvLook e.src place).isSome) || (S.kvLook e.dst place).isSome) || !((S.kvLook e.dst is).getD false)
def S.newNode (place : List (Vert × Int)) (t : List Node) (e : Edge) : Node := ⟨e.dst, (S.kvLook e.src place).getD 0, IntKind.i64.wrap ((t.getD ((S.kvLook e.src place).getD 0).toNat (zero .node)).cost + e.cost), e.data⟩
def S.tEdge (is : List (Vert × Bool)) (place : List (Vert × Int)) (t : List Node) (s : Node × Bool) (e : Edge) : Node × Bool :=
  if S.skips is place e then s else if !s.2 || S.better t (S.newNode place t e) s.1 then (S.newNode place t e, true) else s
def S.plOk (place : List (Vert × Int)) (n : Nat) : Bool := place.all fun p => inb p.2 n
theorem kvLook_mem {α : Type} {u : Vert} {x : α} : ∀ {kv : List (Vert × α)}, S.kvLook u kv = some x → (u, x) ∈ kv
  | p :: l, h => by
    simp only [S.kvLook] at h
    by_cases e : u = p.1
    · rw [if_pos e] at h
      obtain rfl := Option.some.inj h
      rw [e]; exact List.mem_cons_self ..
    · rw [if_neg e] at h; exact List.mem_cons_of_mem _ (kvLook_mem h)
theorem plOk_r {place : List (Vert × Int)} {n : Nat} (h : S.plOk place n = true) (hn : 0 < n) (u : Vert) : inb ((S.kvLook u place).getD 0) n = true := by
  cases hl : S.kvLook u place with
  | none => rw [inb_iff]; simp; omega
  | some x => exact List.all_eq_true.1 h _ (kvLook_mem hl)
def hd21c : List HK := [.box 2 2 .tmap 30, .mpb 5 24, .row 8 .node 37, .mpi 9 38, .box 10 10 .node 40, .av 11 .bool, .av 42 (.sl .edge), .av 43 .int, .av 44 .int]
def lc21c : LS := mkLS hd21c (fun ((m : TMap), (is : List (Vert × Bool)), (t : List Node), (pl : List (Vert × Int)), (x : Node), (f : Bool), (es : List Edge), (n : Int), (i : Int), _) => [decide (i = 0), decide (n = es.length), S.okLen es.length, S.plOk pl t.length, decide (0 < t.length), inb x.parent t.length])
  fun ((m : TMap), (is : List (Vert × Bool)), (t : List Node), (pl : List (Vert × Int)), (x : Node), (f : Bool), (es : List Edge), (n : Int), (i : Int), _) =>
  .one (.exit 4) ⟨[(2, .v (.c (.ptr 2 0))), (5, .v (.c (.mp 24))), (8, .v (.c (.own 37))), (9, .v (.c (.mp 38))), (10, .v (.c (.ptr 10 0))), (11, .v (.c (bo (S.iter (S.tEdge is pl t) es (zero .edge) es.length 0 (x, f)).2)))],
    [(2, .box m.cells 30), (10, .box (cells .node (S.iter (S.tEdge is pl t) es (zero .edge) es.length 0 (x, f)).1) 40), (24, .mpb is), (37, .arr .node t), (38, .mpi pl)]⟩
noncomputable def c21c : Code := sub (bodyOf Try.f21) [1, 1, 1, 1, 1, 1, 0, 0, 0, 1, 1, 0, 1, 0, 0]
def sg21 : List (Nat × Summary) := [(54, sm54), (55, sm55)]
theorem sok21 : SigOK Try.prog sg21 := sig_cons ok54 (sig_cons ok55 sig_nil)
theorem lok21c : LoopOK Try.prog 110 c21c lc21c := by
  refine loop_ev (sig := sg21) (lcs := []) (lv := lv21) c21c (fun v => by kernel_rfl) sok21 (no_loops (by kernel_rfl)) ?_
  rintro ⟨(m : TMap), (is : List (Vert × Bool)), (t : List Node), (pl : List (Vert × Int)), (x : Node), (f : Bool), (es : List Edge), (n0 : Int), (i0 : Int), _⟩ hpre
  have hp : i0 = 0 ∧ n0 = es.length ∧ S.okLen es.length = true ∧ S.plOk pl t.length = true ∧ 0 < t.length ∧ inb x.parent t.length = true := by simpa using hpre
  have e1 := hp.1
  have e2 := hp.2.1
  have hl := okLen_r hp.2.2.1
  have hpl := hp.2.2.2.1
  have ht := hp.2.2.2.2.1
  have hx := hp.2.2.2.2.2
  subst e1 e2
  clear hp hpre
  refine ⟨fun n u => u.1 = m ∧ u.2.1 = is ∧ u.2.2.1 = t ∧ u.2.2.2.1 = pl ∧ inb (u.2.2.2.2.1 : Node).parent t.length = true ∧ u.2.2.2.2.2.2.1 = es ∧ (u.2.2.2.2.2.2.2.1 : Int) = es.length ∧ 0 ≤ (u.2.2.2.2.2.2.2.2.1 : Int) ∧ (u.2.2.2.2.2.2.2.2.1 : Int) + n = es.length ∧
    S.iter (S.tEdge is pl t) es (zero .edge) n u.2.2.2.2.2.2.2.2.1 (u.2.2.2.2.1, u.2.2.2.2.2.1) = S.iter (S.tEdge is pl t) es (zero .edge) es.length 0 (x, f), es.length, ⟨rfl, rfl, rfl, rfl, hx, rfl, rfl, Int.le_refl 0, Int.zero_add _, rfl⟩, ?_⟩
  rintro Q hQ n ⟨(m' : TMap), (is' : List (Vert × Bool)), (t' : List Node), (pl' : List (Vert × Int)), (x' : Node), (f' : Bool), (es' : List Edge), (n' : Int), (i : Int), _⟩ hI
  have h1 : m' = m := hI.1
  have h2 : is' = is := hI.2.1
  have h3 : t' = t := hI.2.2.1
  have h4 : pl' = pl := hI.2.2.2.1
  have hx' : inb x'.parent t.length = true := hI.2.2.2.2.1
  have h5 : es' = es := hI.2.2.2.2.2.1
  have h6 : n' = es.length := hI.2.2.2.2.2.2.1
  have h0 : 0 ≤ i := hI.2.2.2.2.2.2.2.1
  have hn : i + n = es.length := hI.2.2.2.2.2.2.2.2.1
  have hs : S.iter (S.tEdge is pl t) es (zero .edge) n i (x', f') = S.iter (S.tEdge is pl t) es (zero .edge) es.length 0 (x, f) := hI.2.2.2.2.2.2.2.2.2
  subst h1 h2 h3 h4 h5 h6
  have hQ1 : ∀ r : Node × Bool, r = S.iter (S.tEdge is' pl' t') es' (zero .edge) es'.length 0 (x, f) → Q (.exit 4) ⟨[(2, .v (.c (.ptr 2 0))), (5, .v (.c (.mp 24))), (8, .v (.c (.own 37))), (9, .v (.c (.mp 38))), (10, .v (.c (.ptr 10 0))), (11, .v (.c (bo r.2)))],
    [(2, .box m'.cells 30), (10, .box (cells .node r.1) 40), (24, .mpb is'), (37, .arr .node t'), (38, .mpi pl')]⟩ := by
    intro r hr
    subst hr
    exact hQ
  clear hI hQ
  generalize S.iter (S.tEdge is' pl' t') es' (zero .edge) es'.length 0 (x, f) = res at hs hQ1
  suffices hnf : (decide (i < (↑es'.length : Int)) = true → inb i es'.length = true ∧ ((!(S.kvLook (es'.getD i.toNat (zero K.edge)).src pl').isSome || (S.kvLook (es'.getD i.toNat (zero K.edge)).dst pl').isSome || !(S.kvLook (es'.getD i.toNat (zero K.edge)).dst is').getD false) = true → ∃ n', n' < n ∧ m' = m' ∧ is' = is' ∧ t' = t' ∧ pl' = pl' ∧ inb x'.parent t'.length = true ∧ es' = es' ∧ (↑es'.length : Int) = (↑es'.length : Int) ∧ (0 : Int) ≤ IntKind.i64.wrap (i + (1 : Int)) ∧ IntKind.i64.wrap (i + (1 : Int)) + (↑n' : Int) = (↑es'.length : Int) ∧ S.iter (S.tEdge is' pl' t') es' (zero K.edge) n' (IntKind.i64.wrap (i + (1 : Int))) (x', f') = res) ∧ ((!(S.kvLook (es'.getD i.toNat (zero K.edge)).src pl').isSome || (S.kvLook (es'.getD i.toNat (zero K.edge)).dst pl').isSome || !(S.kvLook (es'.getD i.toNat (zero K.edge)).dst is').getD false) = false → inb ((S.kvLook (es'.getD i.toNat (zero K.edge)).src pl').getD (0 : Int)) t'.length = true ∧ inb ((S.kvLook (es'.getD i.toNat (zero K.edge)).src pl').getD (0 : Int)) t'.length = true ∧ (!!!f' || inb ((S.kvLook (es'.getD i.toNat (zero K.edge)).src pl').getD (0 : Int)) t'.length) = true ∧ (!!!f' || inb x'.parent t'.length) = true ∧ ((!f' || S.better t' { vert := (es'.getD i.toNat (zero K.edge)).dst, parent := (S.kvLook (es'.getD i.toNat (zero K.edge)).src pl').getD (0 : Int), cost := IntKind.i64.wrap ((t'.getD ((S.kvLook (es'.getD i.toNat (zero K.edge)).src pl').getD (0 : Int)).toNat (zero K.node)).cost + (es'.getD i.toNat (zero K.edge)).cost), data := (es'.getD i.toNat (zero K.edge)).data : Node } x') = true → ∃ n', n' < n ∧ m' = m' ∧ is' = is' ∧ t' = t' ∧ pl' = pl' ∧ inb { vert := (es'.getD i.toNat (zero K.edge)).dst, parent := (S.kvLook (es'.getD i.toNat (zero K.edge)).src pl').getD (0 : Int), cost := IntKind.i64.wrap ((t'.getD ((S.kvLook (es'.getD i.toNat (zero K.edge)).src pl').getD (0 : Int)).toNat (zero K.node)).cost + (es'.getD i.toNat (zero K.edge)).cost), data := (es'.getD i.toNat (zero K.edge)).data : Node }.parent t'.length = true ∧ es' = es' ∧ (↑es'.length : Int) = (↑es'.length : Int) ∧ (0 : Int) ≤ IntKind.i64.wrap (i + (1 : Int)) ∧ IntKind.i64.wrap (i + (1 : Int)) + (↑n' : Int) = (↑es'.length : Int) ∧ S.iter (S.tEdge is' pl' t') es' (zero K.edge) n' (IntKind.i64.wrap (i + (1 : Int))) ({ vert := (es'.getD i.toNat (zero K.edge)).dst, parent := (S.kvLook (es'.getD i.toNat (zero K.edge)).src pl').getD (0 : Int), cost := IntKind.i64.wrap ((t'.getD ((S.kvLook (es'.getD i.toNat (zero K.edge)).src pl').getD (0 : Int)).toNat (zero K.node)).cost + (es'.getD i.toNat (zero K.edge)).cost), data := (es'.getD i.toNat (zero K.edge)).data : Node }, true) = res) ∧ ((!f' || S.better t' { vert := (es'.getD i.toNat (zero K.edge)).dst, parent := (S.kvLook (es'.getD i.toNat (zero K.edge)).src pl').getD (0 : Int), cost := IntKind.i64.wrap ((t'.getD ((S.kvLook (es'.getD i.toNat (zero K.edge)).src pl').getD (0 : Int)).toNat (zero K.node)).cost + (es'.getD i.toNat (zero K.edge)).cost), data := (es'.getD i.toNat (zero K.edge)).data : Node } x') = false → ∃ n', n' < n ∧ m' = m' ∧ is' = is' ∧ t' = t' ∧ pl' = pl' ∧ inb x'.parent t'.length = true ∧ es' = es' ∧ (↑es'.length : Int) = (↑es'.length : Int) ∧ (0 : Int) ≤ IntKind.i64.wrap (i + (1 : Int)) ∧ IntKind.i64.wrap (i + (1 : Int)) + (↑n' : Int) = (↑es'.length : Int) ∧ S.iter (S.tEdge is' pl' t') es' (zero K.edge) n' (IntKind.i64.wrap (i + (1 : Int))) (x', f') = res))) ∧ (decide (i < (↑es'.length : Int)) = false → Q (Exit.exit (4 : Nat)) { s := [((2 : Nat), AV.v (V1.c (C.ptr (2 : Nat) (0 : Nat)))), ((5 : Nat), AV.v (V1.c (C.mp (24 : Nat)))), ((8 : Nat), AV.v (V1.c (C.own (37 : Nat)))), ((9 : Nat), AV.v (V1.c (C.mp (38 : Nat)))), ((10 : Nat), AV.v (V1.c (C.ptr (10 : Nat) (0 : Nat)))), ((11 : Nat), AV.v (V1.c (C.val (Value.bool f'))))], b := [((2 : Nat), Blk.box [C.sl K.vert m'.verts, C.sl K.edge m'.edges, C.sl K.stub m'.stubs, C.sl K.span m'.spans, C.sl K.int m'.wilds] (30 : Nat)), ((10 : Nat), Blk.box [C.val (Value.int IntKind.i64 x'.vert.kind), C.val (Value.int IntKind.i64 x'.vert.id), C.val (Value.int IntKind.i64 x'.parent), C.val (Value.int IntKind.i64 x'.cost), C.val (Value.int IntKind.i64 x'.data)] (40 : Nat)), ((24 : Nat), Blk.mpb is'), ((37 : Nat), Blk.arr K.node t'), ((38 : Nat), Blk.mpi pl')] : St }) by (apply nfto hnf; kernel_rfl)
  cases n with
  | zero =>
    have : ¬ i < es'.length := by omega
    exact ⟨fun h => absurd (of_decide_eq_true h) this, fun _ => hQ1 (x', f') hs⟩
  | succ n =>
    have hib : inb i es'.length = true := by rw [inb_iff]; omega
    have hw : IntKind.i64.wrap (i + 1) = i + 1 := wrap_id (by omega) (by omega)
    simp only [S.iter] at hs
    rw [hw]
    generalize es'.getD i.toNat (zero .edge) = e at hs
    have hin := plOk_r hpl ht e.src
    have fin : ∀ r : Node × Bool, r = S.tEdge is' pl' t' (x', f') e → inb r.1.parent t'.length = true → ∃ n', n' < n + 1 ∧ m' = m' ∧ is' = is' ∧ t' = t' ∧ pl' = pl' ∧ inb r.1.parent t'.length = true ∧ es' = es' ∧ (es'.length : Int) = es'.length ∧ (0 : Int) ≤ i + 1 ∧ i + 1 + (n' : Int) = es'.length ∧
        S.iter (S.tEdge is' pl' t') es' (zero .edge) n' (i + 1) (r.1, r.2) = res := by
      intro r hr hb
      subst hr
      exact ⟨n, by omega, rfl, rfl, rfl, rfl, hb, rfl, rfl, by omega, by omega, hs⟩
    refine ⟨fun _ => ⟨hib, fun a => fin (x', f') ?_ hx', fun a => ⟨hin, hin, ?_, by rw [hx']; simp, fun b => fin (S.newNode pl' t' e, true) ?_ hin, fun b => fin (x', f') ?_ hx'⟩⟩, fun h => ?_⟩
    · have a' : S.skips is' pl' e = true := a
      simp only [S.tEdge, a', if_true]
    · have h2 : (!!!f' || inb ((S.kvLook e.src pl').getD 0) t'.length) = true := by rw [hin]; simp
      exact h2
    · have a' : S.skips is' pl' e = false := a
      have b' : (!f' || S.better t' (S.newNode pl' t' e) x') = true := b
      simp only [S.tEdge, a', b', if_true, if_false, Bool.false_eq_true]
    · have a' : S.skips is' pl' e = false := a
      have b' : (!f' || S.better t' (S.newNode pl' t' e) x') = false := b
      simp only [S.tEdge, a', b', if_false, Bool.false_eq_true]
    · have : ¬ i < es'.length := of_decide_eq_false h
      omega
end Go.Proofs.Ytoknhjmcoleejaa
