/- The document's map. No condition. -/
import Derived.Test.YtoknhjmcoleejaaFC
import Derived.Test.YtoknhjmcoleejaaGI
set_option linter.unusedVariables false
set_option linter.unusedSimpArgs false
set_option maxHeartbeats 4000000
set_option maxRecDepth 100000
namespace Go.Proofs.Ytoknhjmcoleejaa
open Go.RowKit
theorem from_len2 {ls : List Lsa} (h : S.okM ls = true) (v : Vert) : (S.from ls v).length ≤ 2097152 := by
  have h0 := find_okL h v
  simp only [S.okL, Bool.and_eq_true, decide_eq_true_eq] at h0
  have h1 := iterI_len (f := S.roStep ls v (S.find ls v).1.routers) 1 (fun i s => roStep_len ls v _ i s) (S.find ls v).1.routers.length 0 (S.from1 ls v)
  have h2 := iter_len (f := S.linkStep ls v) (xs := (S.find ls v).1.links) (d := zero .link) 2 (fun s a => linkStep_len ls v s a) (S.find ls v).1.links.length 0 []
  unfold S.from
  unfold S.from1 at h1 ⊢
  simp only [List.length_nil] at h2
  omega
def S.wild (f : Int) : Bool := IntKind.i64.wrap ((BitVec.ofInt 64 f &&& BitVec.ofInt 64 8).toNat : Nat) != 0
def S.stubs (v : Vert) (x : Lsa) (m : TMap) : TMap := S.iter (S.stubStep v) x.links (zero .link) x.links.length 0 m
def S.mapStep (ls : List Lsa) (m : TMap) (v : Vert) : TMap :=
  if v.kind == 2 then ⟨m.verts, m.edges ++ S.from ls v, m.stubs, m.spans ++ [(⟨v, S.net v.id (S.find ls v).1.bits, (S.find ls v).1.bits⟩ : Span)], m.wilds⟩
  else if S.wild (S.find ls v).1.flags then S.stubs v (S.find ls v).1 ⟨m.verts, m.edges ++ S.from ls v, m.stubs, m.spans, m.wilds ++ [v.id]⟩
  else S.stubs v (S.find ls v).1 ⟨m.verts, m.edges ++ S.from ls v, m.stubs, m.spans, m.wilds⟩
theorem stubIter (v : Vert) (xs : List Link) : ∀ (n : Nat) (i : Int) (m : TMap), (S.iter (S.stubStep v) xs (zero .link) n i m).verts = m.verts ∧ (S.iter (S.stubStep v) xs (zero .link) n i m).edges = m.edges ∧ (S.iter (S.stubStep v) xs (zero .link) n i m).spans = m.spans ∧
    (S.iter (S.stubStep v) xs (zero .link) n i m).wilds = m.wilds ∧ (S.iter (S.stubStep v) xs (zero .link) n i m).stubs.length ≤ m.stubs.length + n
  | 0, i, m => ⟨rfl, rfl, rfl, rfl, Nat.le_refl _⟩
  | n + 1, i, m => by
    rw [S.iter]
    have h1 := stubIter v xs n (i + 1) (S.stubStep v m (xs.getD i.toNat (zero .link)))
    have h2 : (S.stubStep v m (xs.getD i.toNat (zero .link))).verts = m.verts ∧ (S.stubStep v m (xs.getD i.toNat (zero .link))).edges = m.edges ∧ (S.stubStep v m (xs.getD i.toNat (zero .link))).spans = m.spans ∧ (S.stubStep v m (xs.getD i.toNat (zero .link))).wilds = m.wilds ∧ (S.stubStep v m (xs.getD i.toNat (zero .link))).stubs.length ≤ m.stubs.length + 1 := by
      unfold S.stubStep
      split
      · exact ⟨rfl, rfl, rfl, rfl, by simp⟩
      · exact ⟨rfl, rfl, rfl, rfl, by omega⟩
    refine ⟨h1.1.trans h2.1, h1.2.1.trans h2.2.1, h1.2.2.1.trans h2.2.2.1, h1.2.2.2.1.trans h2.2.2.2.1, ?_⟩
    have h3 := h1.2.2.2.2
    have h4 := h2.2.2.2.2
    omega
structure SzM (m : TMap) (n V : Nat) : Prop where
  e : m.edges.length + n * 2097152 ≤ V * 2097152
  s : m.stubs.length + n * 262144 ≤ V * 262144
  p : m.spans.length + n ≤ V
  w : m.wilds.length + n ≤ V
def hd18a : List HK := [.av 0 (.sl .lsa), .box 2 2 .tmap 30, .tm 3 3 11 4 7 8 9, .av 4 .int]
def lc18a : LS := mkLS hd18a (fun ((ls : List Lsa), (y : TMap), (m : TMap), (i : Int), _) => [decide (i = 0), decide (m.edges.length = 0), decide (m.stubs.length = 0), decide (m.spans.length = 0), decide (m.wilds.length = 0), decide (m.verts.length ≤ 262144), S.okM ls]) fun ((ls : List Lsa), (y : TMap), (m : TMap), (i : Int), _) =>
  .one (.exit 0) ⟨[(2, .v (.c (.ptr 2 0))), (3, .v (.c (.ptr 3 0)))],
    [(2, .box y.cells 30), (3, .box [.own 11, .own 4, .own 7, .own 8, .own 9] 30), (4, .arr .edge (S.iter (S.mapStep ls) m.verts (zero .vert) m.verts.length 0 m).edges),
      (7, .arr .stub (S.iter (S.mapStep ls) m.verts (zero .vert) m.verts.length 0 m).stubs), (8, .arr .span (S.iter (S.mapStep ls) m.verts (zero .vert) m.verts.length 0 m).spans), (9, .arr .int (S.iter (S.mapStep ls) m.verts (zero .vert) m.verts.length 0 m).wilds), (11, .arr .vert (S.iter (S.mapStep ls) m.verts (zero .vert) m.verts.length 0 m).verts)]⟩
noncomputable def c18a : Code := sub (bodyOf Try.f18) [1,1,0,1,0,0]
theorem lok18a : LoopOK Try.prog 115 c18a lc18a := by
  refine loop_ev (sig := sg18) (lcs := [(13, lc18b)]) (lv := lv18) c18a (fun v => by kernel_rfl) sok18 (one_loop (c := c18b) (by kernel_rfl) lok18b) ?_
  rintro ⟨(ls : List Lsa), (y : TMap), (m : TMap), (i0 : Int), _⟩ hpre
  have hp : i0 = 0 ∧ m.edges.length = 0 ∧ m.stubs.length = 0 ∧ m.spans.length = 0 ∧ m.wilds.length = 0 ∧ m.verts.length ≤ 262144 ∧ S.okM ls = true := by simpa using hpre
  have hp1 := hp.1
  have q1 := hp.2.1
  have q2 := hp.2.2.1
  have q3 := hp.2.2.2.1
  have q4 := hp.2.2.2.2.1
  have hV := hp.2.2.2.2.2.1
  have hM := hp.2.2.2.2.2.2
  clear hp
  subst hp1
  have hsz : SzM m m.verts.length m.verts.length := ⟨by omega, by omega, by omega, by omega⟩
  generalize hVV : m.verts = VV at hV hsz
  refine ⟨fun n u => u.1 = ls ∧ u.2.1 = y ∧ (u.2.2.1 : TMap).verts = VV ∧ SzM u.2.2.1 n VV.length ∧ 0 ≤ (u.2.2.2.1 : Int) ∧ (u.2.2.2.1 : Int) + n = VV.length ∧ S.iter (S.mapStep ls) VV (zero .vert) n u.2.2.2.1 u.2.2.1 = S.iter (S.mapStep ls) VV (zero .vert) VV.length 0 m, VV.length, ⟨rfl, rfl, hVV, hsz, Int.le_refl 0, Int.zero_add _, rfl⟩, ?_⟩
  rintro Q hQ n ⟨(ls' : List Lsa), (y' : TMap), (m' : TMap), (i : Int), _⟩ hI
  have h1 : ls' = ls := hI.1
  have h2 : y' = y := hI.2.1
  have h3 : m'.verts = VV := hI.2.2.1
  have hz : SzM m' n VV.length := hI.2.2.2.1
  have h0 : 0 ≤ i := hI.2.2.2.2.1
  have hn : i + n = VV.length := hI.2.2.2.2.2.1
  have hs : S.iter (S.mapStep ls) VV (zero .vert) n i m' = S.iter (S.mapStep ls) VV (zero .vert) VV.length 0 m := hI.2.2.2.2.2.2
  subst hVV h1 h2
  have hQ1 : ∀ r, r = S.iter (S.mapStep ls') m.verts (zero .vert) m.verts.length 0 m → Q (.exit 0) ⟨[(2, .v (.c (.ptr 2 0))), (3, .v (.c (.ptr 3 0)))],
    [(2, .box y'.cells 30), (3, .box [.own 11, .own 4, .own 7, .own 8, .own 9] 30), (4, .arr .edge r.edges), (7, .arr .stub r.stubs), (8, .arr .span r.spans), (9, .arr .int r.wilds), (11, .arr .vert r.verts)]⟩ := by
    intro r hr
    subst hr
    exact hQ
  clear hI hQ hpre
  generalize S.iter (S.mapStep ls') m.verts (zero .vert) m.verts.length 0 m = res at hs hQ1
  suffices hnf : (decide (i < (↑m'.verts.length : Int)) = true → inb i m'.verts.length = true ∧ inb i m'.verts.length = true ∧ S.okLen ls'.length = true ∧ S.okLsas ls' = true ∧ roomy m'.edges.length (S.from ls' (m'.verts.getD i.toNat (zero K.vert))).length (48 : Nat) = true ∧ (((m'.verts.getD i.toNat (zero K.vert)).kind == (2 : Int)) = true → roomy m'.spans.length [{ vert := m'.verts.getD i.toNat (zero K.vert), pfx := S.net (m'.verts.getD i.toNat (zero K.vert)).id (S.find ls' (m'.verts.getD i.toNat (zero K.vert))).1.bits, bits := (S.find ls' (m'.verts.getD i.toNat (zero K.vert))).1.bits : Span }].length (32 : Nat) = true ∧ ∃ n', n' < n ∧ ls' = ls' ∧ y' = y' ∧ { verts := m'.verts, edges := m'.edges ++ S.from ls' (m'.verts.getD i.toNat (zero K.vert)), stubs := m'.stubs, spans := m'.spans ++ [{ vert := m'.verts.getD i.toNat (zero K.vert), pfx := S.net (m'.verts.getD i.toNat (zero K.vert)).id (S.find ls' (m'.verts.getD i.toNat (zero K.vert))).1.bits, bits := (S.find ls' (m'.verts.getD i.toNat (zero K.vert))).1.bits : Span }], wilds := m'.wilds : TMap }.verts = m.verts ∧ SzM { verts := m'.verts, edges := m'.edges ++ S.from ls' (m'.verts.getD i.toNat (zero K.vert)), stubs := m'.stubs, spans := m'.spans ++ [{ vert := m'.verts.getD i.toNat (zero K.vert), pfx := S.net (m'.verts.getD i.toNat (zero K.vert)).id (S.find ls' (m'.verts.getD i.toNat (zero K.vert))).1.bits, bits := (S.find ls' (m'.verts.getD i.toNat (zero K.vert))).1.bits : Span }], wilds := m'.wilds : TMap } n' m.verts.length ∧ (0 : Int) ≤ IntKind.i64.wrap (i + (1 : Int)) ∧ IntKind.i64.wrap (i + (1 : Int)) + (↑n' : Int) = (↑m.verts.length : Int) ∧ S.iter (S.mapStep ls') m.verts (zero K.vert) n' (IntKind.i64.wrap (i + (1 : Int))) { verts := m'.verts, edges := m'.edges ++ S.from ls' (m'.verts.getD i.toNat (zero K.vert)), stubs := m'.stubs, spans := m'.spans ++ [{ vert := m'.verts.getD i.toNat (zero K.vert), pfx := S.net (m'.verts.getD i.toNat (zero K.vert)).id (S.find ls' (m'.verts.getD i.toNat (zero K.vert))).1.bits, bits := (S.find ls' (m'.verts.getD i.toNat (zero K.vert))).1.bits : Span }], wilds := m'.wilds : TMap } = res) ∧ (((m'.verts.getD i.toNat (zero K.vert)).kind == (2 : Int)) = false → ((IntKind.i64.wrap (↑(BitVec.ofInt (64 : Nat) (S.find ls' (m'.verts.getD i.toNat (zero K.vert))).1.flags &&& BitVec.ofInt (64 : Nat) (8 : Int)).toNat : Int) != (0 : Int)) = true → roomy m'.wilds.length [(m'.verts.getD i.toNat (zero K.vert)).id].length (8 : Nat) = true ∧ true = true ∧ decide (m'.stubs.length ≤ (68719476736 : Nat)) = true ∧ S.okL (S.find ls' (m'.verts.getD i.toNat (zero K.vert))).1 = true ∧ ∃ n', n' < n ∧ ls' = ls' ∧ y' = y' ∧ (S.iter (S.stubStep (m'.verts.getD i.toNat (zero K.vert))) (S.find ls' (m'.verts.getD i.toNat (zero K.vert))).1.links (zero K.link) (S.find ls' (m'.verts.getD i.toNat (zero K.vert))).1.links.length (0 : Int) { verts := m'.verts, edges := m'.edges ++ S.from ls' (m'.verts.getD i.toNat (zero K.vert)), stubs := m'.stubs, spans := m'.spans, wilds := m'.wilds ++ [(m'.verts.getD i.toNat (zero K.vert)).id] : TMap }).verts = m.verts ∧ SzM (S.iter (S.stubStep (m'.verts.getD i.toNat (zero K.vert))) (S.find ls' (m'.verts.getD i.toNat (zero K.vert))).1.links (zero K.link) (S.find ls' (m'.verts.getD i.toNat (zero K.vert))).1.links.length (0 : Int) { verts := m'.verts, edges := m'.edges ++ S.from ls' (m'.verts.getD i.toNat (zero K.vert)), stubs := m'.stubs, spans := m'.spans, wilds := m'.wilds ++ [(m'.verts.getD i.toNat (zero K.vert)).id] : TMap }) n' m.verts.length ∧ (0 : Int) ≤ IntKind.i64.wrap (i + (1 : Int)) ∧ IntKind.i64.wrap (i + (1 : Int)) + (↑n' : Int) = (↑m.verts.length : Int) ∧ S.iter (S.mapStep ls') m.verts (zero K.vert) n' (IntKind.i64.wrap (i + (1 : Int))) (S.iter (S.stubStep (m'.verts.getD i.toNat (zero K.vert))) (S.find ls' (m'.verts.getD i.toNat (zero K.vert))).1.links (zero K.link) (S.find ls' (m'.verts.getD i.toNat (zero K.vert))).1.links.length (0 : Int) { verts := m'.verts, edges := m'.edges ++ S.from ls' (m'.verts.getD i.toNat (zero K.vert)), stubs := m'.stubs, spans := m'.spans, wilds := m'.wilds ++ [(m'.verts.getD i.toNat (zero K.vert)).id] : TMap }) = res) ∧ ((IntKind.i64.wrap (↑(BitVec.ofInt (64 : Nat) (S.find ls' (m'.verts.getD i.toNat (zero K.vert))).1.flags &&& BitVec.ofInt (64 : Nat) (8 : Int)).toNat : Int) != (0 : Int)) = false → true = true ∧ decide (m'.stubs.length ≤ (68719476736 : Nat)) = true ∧ S.okL (S.find ls' (m'.verts.getD i.toNat (zero K.vert))).1 = true ∧ ∃ n', n' < n ∧ ls' = ls' ∧ y' = y' ∧ (S.iter (S.stubStep (m'.verts.getD i.toNat (zero K.vert))) (S.find ls' (m'.verts.getD i.toNat (zero K.vert))).1.links (zero K.link) (S.find ls' (m'.verts.getD i.toNat (zero K.vert))).1.links.length (0 : Int) { verts := m'.verts, edges := m'.edges ++ S.from ls' (m'.verts.getD i.toNat (zero K.vert)), stubs := m'.stubs, spans := m'.spans, wilds := m'.wilds : TMap }).verts = m.verts ∧ SzM (S.iter (S.stubStep (m'.verts.getD i.toNat (zero K.vert))) (S.find ls' (m'.verts.getD i.toNat (zero K.vert))).1.links (zero K.link) (S.find ls' (m'.verts.getD i.toNat (zero K.vert))).1.links.length (0 : Int) { verts := m'.verts, edges := m'.edges ++ S.from ls' (m'.verts.getD i.toNat (zero K.vert)), stubs := m'.stubs, spans := m'.spans, wilds := m'.wilds : TMap }) n' m.verts.length ∧ (0 : Int) ≤ IntKind.i64.wrap (i + (1 : Int)) ∧ IntKind.i64.wrap (i + (1 : Int)) + (↑n' : Int) = (↑m.verts.length : Int) ∧ S.iter (S.mapStep ls') m.verts (zero K.vert) n' (IntKind.i64.wrap (i + (1 : Int))) (S.iter (S.stubStep (m'.verts.getD i.toNat (zero K.vert))) (S.find ls' (m'.verts.getD i.toNat (zero K.vert))).1.links (zero K.link) (S.find ls' (m'.verts.getD i.toNat (zero K.vert))).1.links.length (0 : Int) { verts := m'.verts, edges := m'.edges ++ S.from ls' (m'.verts.getD i.toNat (zero K.vert)), stubs := m'.stubs, spans := m'.spans, wilds := m'.wilds : TMap }) = res))) ∧ (decide (i < (↑m'.verts.length : Int)) = false → Q (Exit.exit (0 : Nat)) { s := [((2 : Nat), AV.v (V1.c (C.ptr (2 : Nat) (0 : Nat)))), ((3 : Nat), AV.v (V1.c (C.ptr (3 : Nat) (0 : Nat))))], b := [((2 : Nat), Blk.box [C.sl K.vert y'.verts, C.sl K.edge y'.edges, C.sl K.stub y'.stubs, C.sl K.span y'.spans, C.sl K.int y'.wilds] (30 : Nat)), ((3 : Nat), Blk.box [C.own (11 : Nat), C.own (4 : Nat), C.own (7 : Nat), C.own (8 : Nat), C.own (9 : Nat)] (30 : Nat)), ((4 : Nat), Blk.arr K.edge m'.edges), ((7 : Nat), Blk.arr K.stub m'.stubs), ((8 : Nat), Blk.arr K.span m'.spans), ((9 : Nat), Blk.arr K.int m'.wilds), ((11 : Nat), Blk.arr K.vert m'.verts)] : St }) by (apply nfto hnf; kernel_rfl)
  have hw : n ≠ 0 → IntKind.i64.wrap (i + 1) = i + 1 := fun h => wrap_id (by omega) (by omega)
  cases n with
  | zero =>
    have : ¬ i < m'.verts.length := by rw [h3]; omega
    refine ⟨fun h => absurd (of_decide_eq_true h) this, fun _ => hQ1 _ hs⟩
  | succ n =>
    have hib : inb i m'.verts.length = true := by rw [inb_iff, h3]; omega
    have hw := hw (by omega)
    simp only [S.iter] at hs
    rw [hw]
    rw [← h3] at hs ⊢
    rw [← h3] at hV hz hn
    generalize m'.verts.getD i.toNat (zero .vert) = v at hs
    have c0 := okM_lsas hM
    have c1 : S.okLen ls'.length = true := by
      have h := c0
      simp only [S.okLsas, Bool.and_eq_true] at h
      exact tiny_ok h.1
    have c2 := find_okL hM v
    have hl : (S.find ls' v).1.links.length ≤ 262144 := by
      have h := c2
      simp only [S.okL, Bool.and_eq_true, decide_eq_true_eq] at h
      exact h.1
    have c3 := from_len2 hM v
    obtain ⟨z1, z2, z3, z4⟩ := hz
    have fin : ∀ r : TMap, r = S.mapStep ls' m' v → r.verts = m'.verts → SzM r n m'.verts.length → ∃ n', n' < n + 1 ∧ ls' = ls' ∧ y' = y' ∧ r.verts = m'.verts ∧ SzM r n' m'.verts.length ∧ (0 : Int) ≤ i + 1 ∧ i + 1 + (n' : Int) = m'.verts.length ∧ S.iter (S.mapStep ls') m'.verts (zero .vert) n' (i + 1) r = res := by
      intro r hr hv hsz
      subst hr
      exact ⟨n, by omega, rfl, rfl, hv, hsz, by omega, by omega, hs⟩
    have zs2 : m'.stubs.length + n * 262144 ≤ m'.verts.length * 262144 := Nat.le_trans (Nat.add_le_add_left (Nat.mul_le_mul_right _ (Nat.le_succ n)) _) z2
    have zw2 : m'.wilds.length + n ≤ m'.verts.length := by omega
    have zp2 : m'.spans.length + n ≤ m'.verts.length := by omega
    have stb0 : m'.stubs.length ≤ 68719476736 := by
      have : m'.verts.length * 262144 ≤ 262144 * 262144 := Nat.mul_le_mul_right _ hV
      exact Nat.le_trans (Nat.le_trans (Nat.le_add_right _ _) z2) this
    have stb : decide (m'.stubs.length ≤ 68719476736) = true := by rw [decide_eq_true_eq]; exact stb0
    refine ⟨fun _ => ⟨hib, hib, c1, c0, by rw [roomy_iff]; omega, fun a => ⟨by rw [roomy_iff]; simp only [List.length_singleton]; omega, fin _ ?_ rfl ⟨by simp only [List.length_append]; omega, zs2, by simp only [List.length_append, List.length_singleton]; omega, zw2⟩⟩,
      fun a => ⟨fun b => ⟨by rw [roomy_iff]; simp only [List.length_singleton]; omega, rfl, stb, c2, fin _ ?_ ?_ ?_⟩, fun b => ⟨rfl, stb, c2, fin _ ?_ ?_ ?_⟩⟩⟩, fun h => ?_⟩
    · simp only [S.mapStep, a, if_true]
    · have b' : S.wild (S.find ls' v).1.flags = true := b
      simp only [S.mapStep, a, b', if_true, if_false, Bool.false_eq_true]
      rfl
    · exact (stubIter v _ _ _ _).1
    · have h := stubIter v (S.find ls' v).1.links (S.find ls' v).1.links.length 0 ⟨m'.verts, m'.edges ++ S.from ls' v, m'.stubs, m'.spans, m'.wilds ++ [v.id]⟩
      refine ⟨?_, ?_, ?_, ?_⟩
      · rw [h.2.1]; simp only [List.length_append]; omega
      · have h5 : _ ≤ m'.stubs.length + _ := h.2.2.2.2
        change (S.stubs v (S.find ls' v).1 ⟨m'.verts, m'.edges ++ S.from ls' v, m'.stubs, m'.spans, m'.wilds ++ [v.id]⟩).stubs.length + n * 262144 ≤ m'.verts.length * 262144
        unfold S.stubs
        omega
      · rw [h.2.2.1]; exact zp2
      · rw [h.2.2.2.1]; simp only [List.length_append, List.length_singleton]; omega
    · have b' : S.wild (S.find ls' v).1.flags = false := b
      simp only [S.mapStep, a, b', if_true, if_false, Bool.false_eq_true]
      rfl
    · exact (stubIter v _ _ _ _).1
    · have h := stubIter v (S.find ls' v).1.links (S.find ls' v).1.links.length 0 ⟨m'.verts, m'.edges ++ S.from ls' v, m'.stubs, m'.spans, m'.wilds⟩
      refine ⟨?_, ?_, ?_, ?_⟩
      · rw [h.2.1]; simp only [List.length_append]; omega
      · have h5 : _ ≤ m'.stubs.length + _ := h.2.2.2.2
        change (S.stubs v (S.find ls' v).1 ⟨m'.verts, m'.edges ++ S.from ls' v, m'.stubs, m'.spans, m'.wilds⟩).stubs.length + n * 262144 ≤ m'.verts.length * 262144
        unfold S.stubs
        omega
      · rw [h.2.2.1]; exact zp2
      · rw [h.2.2.2.1]; exact zw2
    · have : ¬ i < m'.verts.length := of_decide_eq_false h
      omega
end Go.Proofs.Ytoknhjmcoleejaa
