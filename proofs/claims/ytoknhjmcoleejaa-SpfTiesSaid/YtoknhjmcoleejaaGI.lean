/- The document's map: the stubs of a router. No condition. -/
import Derived.Test.YtoknhjmcoleejaaFC
import Derived.Test.YtoknhjmcoleejaaGH
set_option linter.unusedVariables false
set_option linter.unusedSimpArgs false
set_option maxHeartbeats 4000000
namespace Go.Proofs.Ytoknhjmcoleejaa
open Go.RowKit
def lv18 : List (Nat × List Nat) := [(0, [0, 2]), (1, [0, 2, 3]), (2, [0, 2, 3, 4]), (3, [0, 2, 3, 4, 17]), (4, [0, 2, 3, 4]), (5, [0, 2, 3, 4, 5]), (6, [0, 2, 3, 4, 5, 6]), (7, [0, 2, 3, 4, 5, 6]), (8, [0, 2, 3, 4, 5, 6, 40]), (9, [0, 2, 3, 4]), (10, [0, 2, 3, 4, 5, 6, 58]), (11, [0, 2, 3, 4, 5, 6]), (12, [0, 2, 3, 4, 5, 6, 8]), (13, [0, 2, 3, 4, 5, 6, 8, 70]), (14, [0, 2, 3, 4, 5, 6, 8]), (15, [0, 2, 3, 4, 5, 6, 8, 9]), (16, [0, 2, 3, 4, 5, 6, 8, 9, 90]), (17, [0, 2, 3, 4, 5, 6, 8]), (18, [2]), (1000000, [2, 3]), (1000001, [0, 2, 3, 4]), (1000002, [0, 2, 3, 4]), (1000003, [0, 2, 3, 4, 5, 6, 8])]
def S.okL (l : Lsa) : Bool := decide (l.links.length ≤ 262144) && decide (l.routers.length ≤ 1048576)
def S.okM (ls : List Lsa) : Bool := decide (ls.length ≤ 131072) && ls.all S.okL
theorem okL_lsa {l : Lsa} (h : S.okL l = true) : S.okLsa l = true := by
  simp only [S.okL, Bool.and_eq_true, decide_eq_true_eq] at h
  simp only [S.okLsa, S.tiny, Bool.and_eq_true, decide_eq_true_eq]
  omega
theorem okM_lsas {ls : List Lsa} (h : S.okM ls = true) : S.okLsas ls = true := by
  simp only [S.okM, Bool.and_eq_true, decide_eq_true_eq] at h
  simp only [S.okLsas, Bool.and_eq_true]
  refine ⟨by simp [S.tiny]; omega, ?_⟩
  rw [List.all_eq_true] at h ⊢
  exact fun l hl => okL_lsa (h.2 l hl)
theorem find_okL {ls : List Lsa} (h : S.okM ls = true) (v : Vert) : S.okL (S.find ls v).1 = true := by
  simp only [S.okM, Bool.and_eq_true] at h
  unfold S.find
  refine iter_inv (fun s : Lsa × Bool => S.okL s.1 = true) (fun s i hs => ?_) _ _ _ (by decide)
  unfold S.findStep
  split
  · exact getD_all h.2 (by decide) i
  · exact hs
def S.stubStep (v : Vert) (m : TMap) (k : Link) : TMap :=
  if k.kind == 3 && decide (S.bits k.data ≥ 0) then ⟨m.verts, m.edges, m.stubs ++ [(⟨v.id, S.net k.id (S.bits k.data), S.bits k.data, k.cost⟩ : Stub)], m.spans, m.wilds⟩ else m
def hd18b : List HK := [.av 0 (.sl .lsa), .box 2 2 .tmap 30, .tm 3 3 11 4 7 8 9, .av 4 .int, .box 5 5 .vert 38, .box 6 6 .lsa 48, .av 8 .int]
def tmB (m : TMap) : Blk := .box [.own 11, .own 4, .own 7, .own 8, .own 9] 30
def lc18b : LS := mkLS hd18b (fun ((ls : List Lsa), (y : TMap), (m : TMap), (i : Int), (v : Vert), (x : Lsa), (k : Int), _) => [decide (k = 0), decide (m.stubs.length ≤ 68719476736), S.okL x]) fun ((ls : List Lsa), (y : TMap), (m : TMap), (i : Int), (v : Vert), (x : Lsa), (k : Int), _) =>
  .one (.exit 2) ⟨[(0, .v (.c (.sl .lsa ls))), (2, .v (.c (.ptr 2 0))), (3, .v (.c (.ptr 3 0))), (4, .v (.c (i64 i)))],
    [(2, .box y.cells 30), (3, .box [.own 11, .own 4, .own 7, .own 8, .own 9] 30), (4, .arr .edge (S.iter (S.stubStep v) x.links (zero .link) x.links.length 0 m).edges),
      (7, .arr .stub (S.iter (S.stubStep v) x.links (zero .link) x.links.length 0 m).stubs), (8, .arr .span (S.iter (S.stubStep v) x.links (zero .link) x.links.length 0 m).spans), (9, .arr .int (S.iter (S.stubStep v) x.links (zero .link) x.links.length 0 m).wilds), (11, .arr .vert (S.iter (S.stubStep v) x.links (zero .link) x.links.length 0 m).verts)]⟩
noncomputable def c18b : Code := sub (bodyOf Try.f18) [1,1,0,1,0,0,1,0,0,1,1,1,1,1,1,0,0]
def sg18 : List (Nat × Summary) := [(51, sm51), (52, sm52), (38, sm38), (53, sm53), (50, sm50)]
theorem sok18 : SigOK Try.prog sg18 := sig_cons ok51 (sig_cons ok52 (sig_cons ok38 (sig_cons ok53 (sig_cons ok50 sig_nil))))
theorem lok18b : LoopOK Try.prog 115 c18b lc18b := by
  refine loop_ev (sig := sg18) (lcs := []) (lv := lv18) c18b (fun v => by kernel_rfl) sok18 (no_loops (by kernel_rfl)) ?_
  rintro ⟨(ls : List Lsa), (y : TMap), (m : TMap), (ii : Int), (v : Vert), (x : Lsa), (k0 : Int), _⟩ hpre
  have hp : k0 = 0 ∧ m.stubs.length ≤ 68719476736 ∧ S.okL x = true := by simpa using hpre
  have hp1 := hp.1
  have hp2 := hp.2.1
  have hx := hp.2.2
  clear hp
  subst hp1
  have hxl : x.links.length ≤ 262144 := by simp only [S.okL, Bool.and_eq_true, decide_eq_true_eq] at hx; exact hx.1
  refine ⟨fun n u => u.1 = ls ∧ u.2.1 = y ∧ u.2.2.2.1 = ii ∧ u.2.2.2.2.1 = v ∧ u.2.2.2.2.2.1 = x ∧ (u.2.2.1 : TMap).stubs.length + n ≤ 68719476736 + x.links.length ∧ 0 ≤ (u.2.2.2.2.2.2.1 : Int) ∧ (u.2.2.2.2.2.2.1 : Int) + n = x.links.length ∧ S.iter (S.stubStep v) x.links (zero .link) n u.2.2.2.2.2.2.1 u.2.2.1 = S.iter (S.stubStep v) x.links (zero .link) x.links.length 0 m, x.links.length, ⟨rfl, rfl, rfl, rfl, rfl, by show m.stubs.length + x.links.length ≤ _; omega, Int.le_refl 0, Int.zero_add _, rfl⟩, ?_⟩
  rintro Q hQ n ⟨(ls' : List Lsa), (y' : TMap), (m' : TMap), (ii' : Int), (v' : Vert), (x' : Lsa), (i : Int), _⟩ hI
  have h1 : ls' = ls := hI.1
  have h2 : y' = y := hI.2.1
  have h3 : ii' = ii := hI.2.2.1
  have h4 : v' = v := hI.2.2.2.1
  have h5 : x' = x := hI.2.2.2.2.1
  have hlen : m'.stubs.length + n ≤ 68719476736 + x.links.length := hI.2.2.2.2.2.1
  have h0 : 0 ≤ i := hI.2.2.2.2.2.2.1
  have hn : i + n = x.links.length := hI.2.2.2.2.2.2.2.1
  have hs : S.iter (S.stubStep v) x.links (zero .link) n i m' = S.iter (S.stubStep v) x.links (zero .link) x.links.length 0 m := hI.2.2.2.2.2.2.2.2
  have hQ1 := hQ
  subst h1 h2 h3 h4 h5
  clear hI
  have hQ1 : ∀ r, r = S.iter (S.stubStep v') x'.links (zero .link) x'.links.length 0 m → Q (.exit 2) ⟨[(0, .v (.c (.sl .lsa ls'))), (2, .v (.c (.ptr 2 0))), (3, .v (.c (.ptr 3 0))), (4, .v (.c (i64 ii')))],
    [(2, .box y'.cells 30), (3, .box [.own 11, .own 4, .own 7, .own 8, .own 9] 30), (4, .arr .edge r.edges), (7, .arr .stub r.stubs), (8, .arr .span r.spans), (9, .arr .int r.wilds), (11, .arr .vert r.verts)]⟩ := by
    intro r hr
    subst hr
    exact hQ
  generalize S.iter (S.stubStep v') x'.links (zero .link) x'.links.length 0 m = res at hs hQ1
  suffices hnf : (decide (i < (↑x'.links.length : Int)) = true → inb i x'.links.length = true ∧ inb i x'.links.length = true ∧ (((x'.links.getD i.toNat (zero K.link)).kind == (3 : Int) && decide (S.bits (x'.links.getD i.toNat (zero K.link)).data ≥ (0 : Int))) = true → inb i x'.links.length = true ∧ inb i x'.links.length = true ∧ roomy m'.stubs.length [{ router := v'.id, pfx := S.net (x'.links.getD i.toNat (zero K.link)).id (S.bits (x'.links.getD i.toNat (zero K.link)).data), bits := S.bits (x'.links.getD i.toNat (zero K.link)).data, cost := (x'.links.getD i.toNat (zero K.link)).cost : Stub }].length (32 : Nat) = true ∧ ∃ n', n' < n ∧ ls' = ls' ∧ y' = y' ∧ ii' = ii' ∧ v' = v' ∧ x' = x' ∧ { verts := m'.verts, edges := m'.edges, stubs := m'.stubs ++ [{ router := v'.id, pfx := S.net (x'.links.getD i.toNat (zero K.link)).id (S.bits (x'.links.getD i.toNat (zero K.link)).data), bits := S.bits (x'.links.getD i.toNat (zero K.link)).data, cost := (x'.links.getD i.toNat (zero K.link)).cost : Stub }], spans := m'.spans, wilds := m'.wilds : TMap }.stubs.length + n' ≤ (68719476736 : Nat) + x'.links.length ∧ (0 : Int) ≤ IntKind.i64.wrap (i + (1 : Int)) ∧ IntKind.i64.wrap (i + (1 : Int)) + (↑n' : Int) = (↑x'.links.length : Int) ∧ S.iter (S.stubStep v') x'.links (zero K.link) n' (IntKind.i64.wrap (i + (1 : Int))) { verts := m'.verts, edges := m'.edges, stubs := m'.stubs ++ [{ router := v'.id, pfx := S.net (x'.links.getD i.toNat (zero K.link)).id (S.bits (x'.links.getD i.toNat (zero K.link)).data), bits := S.bits (x'.links.getD i.toNat (zero K.link)).data, cost := (x'.links.getD i.toNat (zero K.link)).cost : Stub }], spans := m'.spans, wilds := m'.wilds : TMap } = res) ∧ (((x'.links.getD i.toNat (zero K.link)).kind == (3 : Int) && decide (S.bits (x'.links.getD i.toNat (zero K.link)).data ≥ (0 : Int))) = false → ∃ n', n' < n ∧ ls' = ls' ∧ y' = y' ∧ ii' = ii' ∧ v' = v' ∧ x' = x' ∧ m'.stubs.length + n' ≤ (68719476736 : Nat) + x'.links.length ∧ (0 : Int) ≤ IntKind.i64.wrap (i + (1 : Int)) ∧ IntKind.i64.wrap (i + (1 : Int)) + (↑n' : Int) = (↑x'.links.length : Int) ∧ S.iter (S.stubStep v') x'.links (zero K.link) n' (IntKind.i64.wrap (i + (1 : Int))) m' = res)) ∧ (decide (i < (↑x'.links.length : Int)) = false → Q (Exit.exit (2 : Nat)) { s := [((0 : Nat), AV.v (V1.c (C.sl K.lsa ls'))), ((2 : Nat), AV.v (V1.c (C.ptr (2 : Nat) (0 : Nat)))), ((3 : Nat), AV.v (V1.c (C.ptr (3 : Nat) (0 : Nat)))), ((4 : Nat), AV.v (V1.c (C.val (Value.int IntKind.i64 ii'))))], b := [((2 : Nat), Blk.box [C.sl K.vert y'.verts, C.sl K.edge y'.edges, C.sl K.stub y'.stubs, C.sl K.span y'.spans, C.sl K.int y'.wilds] (30 : Nat)), ((3 : Nat), Blk.box [C.own (11 : Nat), C.own (4 : Nat), C.own (7 : Nat), C.own (8 : Nat), C.own (9 : Nat)] (30 : Nat)), ((4 : Nat), Blk.arr K.edge m'.edges), ((7 : Nat), Blk.arr K.stub m'.stubs), ((8 : Nat), Blk.arr K.span m'.spans), ((9 : Nat), Blk.arr K.int m'.wilds), ((11 : Nat), Blk.arr K.vert m'.verts)] : St }) by (apply nfto hnf; kernel_rfl)
  cases n with
  | zero =>
    have : ¬ i < x'.links.length := by omega
    refine ⟨fun h => absurd (of_decide_eq_true h) this, fun _ => hQ1 _ hs⟩
  | succ n =>
    have hib : inb i x'.links.length = true := by rw [inb_iff]; omega
    have hw : IntKind.i64.wrap (i + 1) = i + 1 := wrap_id (by omega) (by omega)
    simp only [S.iter] at hs
    rw [hw]
    generalize x'.links.getD i.toNat (zero .link) = k at hs
    have fin : ∀ r : TMap, r = S.stubStep v' m' k → r.stubs.length ≤ m'.stubs.length + 1 → ∃ n', n' < n + 1 ∧ ls' = ls' ∧ y' = y' ∧ ii' = ii' ∧ v' = v' ∧ x' = x' ∧ r.stubs.length + n' ≤ 68719476736 + x'.links.length ∧ (0 : Int) ≤ i + 1 ∧ i + 1 + (n' : Int) = x'.links.length ∧ S.iter (S.stubStep v') x'.links (zero .link) n' (i + 1) r = res := by
      intro r hr hb
      subst hr
      exact ⟨n, by omega, rfl, rfl, rfl, rfl, rfl, by omega, by omega, by omega, hs⟩
    refine ⟨fun _ => ⟨hib, hib, fun a => ⟨hib, hib, ?_, fin _ ?_ (by simp)⟩, fun a => fin _ ?_ (by omega)⟩, fun h => ?_⟩
    · rw [roomy_iff]; simp only [List.length_singleton]; omega
    · simp only [S.stubStep, a, if_true]
    · simp only [S.stubStep, a, if_false, Bool.false_eq_true]
    · have : ¬ i < x'.links.length := of_decide_eq_false h
      omega
end Go.Proofs.Ytoknhjmcoleejaa
