/- Writes into a block of the call's own. No condition. -/
import Derived.Test.YtoknhjmcoleejaaEE
set_option linter.unusedVariables false
set_option linter.unusedSimpArgs false
namespace Go.Proofs.Ytoknhjmcoleejaa
open Go.RowKit

def setLL {α : Type} : List α → Nat → List α → List α
  | xs, _, [] => xs
  | xs, o, u :: r => setLL (xs.set o u) (o + 1) r
theorem setLL_eq {α : Type} : ∀ (us xs : List α) (o : Nat), o + us.length ≤ xs.length → setLL xs o us = xs.take o ++ (us ++ xs.drop (o + us.length))
  | [], xs, o, h => by simp [setLL]
  | u :: r, xs, o, h => by
    have hl : o < xs.length := by simp at h; omega
    simp only [setLL]
    rw [setLL_eq r (xs.set o u) (o + 1) (by simp at h ⊢; omega)]
    have h1 : (xs.set o u).take (o + 1) = xs.take o ++ [u] := by
      rw [List.take_add_one, List.take_set_of_le (Nat.le_refl _)]
      simp [List.getElem?_set_self hl]
    have h2 : (xs.set o u).drop (o + 1 + r.length) = xs.drop (o + (u :: r).length) := by
      rw [List.drop_set_of_lt (by omega)]
      congr 1
      simp; omega
    rw [h1, h2]
    simp
theorem setLL_length {α : Type} : ∀ (us xs : List α) (o : Nat), (setLL xs o us).length = xs.length
  | [], _, _ => rfl
  | u :: r, xs, o => by simp [setLL, setLL_length r]

section
variable {R : RT} {P : Program} {w w' : World} {μ μ' : Nat → Gh} {G : Nat → Prop}
theorem splice_csr {cs ds : List C} {vs us : List Value} {o : Nat} (h : CsR w μ G cs vs) (k : CsR w μ G ds us) (hb : o + us.length ≤ vs.length) : CsR w μ G (splice cs o ds) (setLL vs o us) := by
  rw [setLL_eq us vs o hb]
  unfold splice
  rw [k.length]
  exact (h.take o).append (k.append (h.drop _))

theorem setCells_heap (b : Nat) : ∀ (us : List Value) (o : Nat) (w : World) (vs : Array Value) (t : TypeId) (fr : Nat × Nat), w.heap[b]? = some (.cells vs t fr) →
    ∃ vs' : Array Value, (w.setCells b o us).heap[b]? = some (.cells vs' t fr) ∧ vs'.toList = setLL vs.toList o us
  | [], o, w, vs, t, fr, h => ⟨vs, h, rfl⟩
  | u :: r, o, w, vs, t, fr, h => by
    have h1 : (w.setCell ⟨b, o, none⟩ u).heap[b]? = some (.cells (vs.setIfInBounds o u) t fr) := by
      simp [World.setCell, Array.getElem?_modify, h]
    obtain ⟨vs', h2, h3⟩ := setCells_heap b r (o + 1) (w.setCell ⟨b, o, none⟩ u) _ t fr h1
    exact ⟨vs', h2, by rw [h3]; simp [setLL]⟩
theorem setCells_grown (b : Nat) : ∀ (us : List Value) (o : Nat) (w : World), w.grownBy (w.setCells b o us) (some b)
  | [], o, w => ⟨rfl, rfl, rfl, Nat.le_refl _, fun _ _ _ => rfl⟩
  | u :: r, o, w => by
    have h := setCells_grown b r (o + 1) (w.setCell ⟨b, o, none⟩ u)
    have hs : (w.setCell ⟨b, o, none⟩ u).heap.size = w.heap.size := by simp [World.setCell]
    refine ⟨h.os, h.tape, h.output, by rw [← hs]; exact h.size, fun k hk hne => ?_⟩
    have := h.block k (by rw [hs]; exact hk) hne
    rw [World.setCells, this]
    exact Below.heap_setCell _ _ _ _ (fun e => hne (by rw [e]))

theorem TT_plain {t : TypeId} {sh : Sh} {n : Nat} {z : List C} (h : look TT t = some ⟨sh, n, z⟩) : (match sh with | .agg _ => True | _ => n = 1) := by
  have key : ∀ l : List (Nat × Ty), (l.all fun p => match p.2.sh with | .agg _ => true | _ => Nat.beq p.2.size 1) = true → look l t = some ⟨sh, n, z⟩ → (match sh with | .agg _ => True | _ => n = 1) := by
    intro l
    induction l with
    | nil => intro _ h; cases h
    | cons p l ih =>
      intro ha hl
      simp only [List.all_cons, Bool.and_eq_true] at ha
      simp only [look] at hl
      cases hb : Nat.beq p.1 t with
      | false => rw [hb] at hl; exact ih ha.2 hl
      | true =>
        rw [hb] at hl
        simp only [cond_true, Option.some.injEq] at hl
        have h1 := ha.1
        rw [hl] at h1
        cases sh <;> first | trivial | exact Nat.eq_of_beq_eq_true h1
  exact key TT (by decide) h

/-- A store of several cells, or of one. -/
theorem store_run {t : TypeId} {x : Ty} (h : TyOK P t x) (hx : look TT t = some x) {y : V1} {u : Value} (hy : V1R w μ G y u) (hf : fits t y = true) {B off : Nat} {vs : Array Value} {e : TypeId}
    (hB : w.heap[B]? = some (.cells vs e (0, 0))) (hle : off + y.cs.length ≤ vs.size) :
    (Instr.storeAt t (.pointer (some ⟨B, off, none⟩)) u).run P w = .ok () (w.setCells B off u.cells.toList) ∧ u.cells.toList.length = y.cs.length := by
  have hlen := hy.cs.length
  have hsz : u.cells.size = x.size := by
    unfold fits at hf
    rw [hx] at hf
    obtain ⟨sh, n, z⟩ := x
    cases y with
    | c c =>
      have h1 : u.oneCell' = true := CR.one hy
      have hu1 : u.cells.size = 1 := by cases u <;> first | rfl | (simp [Value.oneCell'] at h1)
      rw [hu1]
      have hn := h.info
      obtain ⟨i, z', _, _, _, h4, _, h6⟩ := hn
      cases sh with
      | agg fs => simp at hf
      | other => exact h.und.elim
      | int k =>
        -- the table's own sizes: each plain type has one cell
        have : n = 1 := by
          have := TT_plain hx
          exact this
        exact this.symm
      | bool => exact (TT_plain hx).symm
      | slice k => exact (TT_plain hx).symm
    | agg cs =>
      cases sh with
      | agg fs =>
        have := Nat.eq_of_beq_eq_true hf
        obtain ⟨vs', rfl, hc⟩ := hy
        have := hc.length
        simp [Value.cells] at *
        omega
      | _ => simp at hf
  have hst := run_storeCells_cells (P := P) B off u.cells.toList 0 w
    (fun j hj => by
      have : off + 0 + j < vs.size := by rw [← hlen] at hj; omega
      simp only [Nat.add_zero] at this ⊢; simp [World.cell?, hB, this])
    (fun j hj => by simp [World.frozen?, hB]) hy.cs.one
  refine ⟨?_, hlen.symm⟩
  simp only [Nat.add_zero] at hst
  simp [Instr.storeAt, Instr.sureAddr, storeVar, sizeOf_run h, hsz, hst]
theorem intOf_cr {c : C} {n : Int} {v : Value} (h : intOf c = some n) (hc : CR w μ G c v) : CR w μ G (i64 n) v := by
  unfold intOf at h
  split at h
  · simp only [Option.some.injEq] at h; subst h; exact hc
  · cases h
theorem boolOf_cr {c : C} {n : Bool} {v : Value} (h : boolOf c = some n) (hc : CR w μ G c v) : CR w μ G (bo n) v := by
  unfold boolOf at h
  split at h
  · simp only [Option.some.injEq] at h; subst h; exact hc
  · cases h
theorem slOf_cr {k : K} {c : C} {xs : List (ty k)} {v : Value} (h : slOf k c = some xs) (hc : CR w μ G c v) : CR w μ G (.sl k xs) v := by
  unfold slOf at h
  split at h <;> first
    | (simp only [Option.some.injEq] at h; subst h; exact hc)
    | (simp only [Option.some.injEq] at h; subst h; cases hc; exact .slnil)
    | cases h
def LeL (w : World) (μ : Nat → Gh) (G : Nat → Prop) : List C → List C → Prop
  | [], [] => True
  | a :: l, b :: m => (∀ v, CR w μ G a v → CR w μ G b v) ∧ LeL w μ G l m
  | _, _ => False
theorem LeL.csr : ∀ {l m : List C} {vs : List Value}, LeL w μ G l m → CsR w μ G l vs → CsR w μ G m vs
  | [], [], [], _, _ => trivial
  | a :: l, b :: m, v :: vs, h, k => ⟨h.1 v k.1, LeL.csr h.2 k.2⟩
  | [], [], _ :: _, _, k => k.elim
  | _ :: _, _ :: _, [], _, k => k.elim
  | [], _ :: _, _, h, _ => h.elim
  | _ :: _, [], _, h, _ => h.elim
theorem popI_some {α : Type} {cs : List C} {k : Int → List C → Option α} {y : α} (h : popI cs k = some y) : ∃ c l n, cs = c :: l ∧ intOf c = some n ∧ k n l = some y := by
  obtain _ | ⟨c, l⟩ := cs
  · cases h
  · simp only [popI] at h
    cases hc : intOf c with
    | none => rw [hc] at h; cases h
    | some n => rw [hc] at h; exact ⟨c, l, n, rfl, hc, h⟩
theorem popB_some {α : Type} {cs : List C} {k : Bool → List C → Option α} {y : α} (h : popB cs k = some y) : ∃ c l n, cs = c :: l ∧ boolOf c = some n ∧ k n l = some y := by
  obtain _ | ⟨c, l⟩ := cs
  · cases h
  · simp only [popB] at h
    cases hc : boolOf c with
    | none => rw [hc] at h; cases h
    | some n => rw [hc] at h; exact ⟨c, l, n, rfl, hc, h⟩
theorem popS_some {α : Type} {kk : K} {cs : List C} {k : List (ty kk) → List C → Option α} {y : α} (h : popS kk cs k = some y) : ∃ c l n, cs = c :: l ∧ slOf kk c = some n ∧ k n l = some y := by
  obtain _ | ⟨c, l⟩ := cs
  · cases h
  · simp only [popS] at h
    cases hc : slOf kk c with
    | none => rw [hc] at h; cases h
    | some n => rw [hc] at h; exact ⟨c, l, n, rfl, hc, h⟩
theorem fin0_some {α : Type} {cs : List C} {a y : α} (h : fin0 cs a = some y) : cs = [] ∧ a = y := by
  obtain _ | ⟨c, l⟩ := cs
  · exact ⟨rfl, Option.some.inj h⟩
  · cases h
theorem ofCells_le {k : K} {cs : List C} {y : ty k} (h : ofCells k cs = some y) : LeL w μ G cs (cells k y) := by
  cases k
  case u8 => cases h
  case u32 => cases h
  case bl =>
    obtain ⟨c0, l0, n0, rfl, h0, h⟩ := popB_some h
    obtain ⟨rfl, rfl⟩ := fin0_some h
    exact ⟨fun v hv => boolOf_cr h0 hv, trivial⟩
  case int =>
    obtain ⟨c0, l0, n0, rfl, h0, h⟩ := popI_some h
    obtain ⟨rfl, rfl⟩ := fin0_some h
    exact ⟨fun v hv => intOf_cr h0 hv, trivial⟩
  case vert =>
    obtain ⟨c0, l0, n0, rfl, h0, h⟩ := popI_some h
    obtain ⟨c1, l1, n1, rfl, h1, h⟩ := popI_some h
    obtain ⟨rfl, rfl⟩ := fin0_some h
    exact ⟨fun v hv => intOf_cr h0 hv, fun v hv => intOf_cr h1 hv, trivial⟩
  case edge =>
    obtain ⟨c0, l0, n0, rfl, h0, h⟩ := popI_some h
    obtain ⟨c1, l1, n1, rfl, h1, h⟩ := popI_some h
    obtain ⟨c2, l2, n2, rfl, h2, h⟩ := popI_some h
    obtain ⟨c3, l3, n3, rfl, h3, h⟩ := popI_some h
    obtain ⟨c4, l4, n4, rfl, h4, h⟩ := popI_some h
    obtain ⟨c5, l5, n5, rfl, h5, h⟩ := popI_some h
    obtain ⟨rfl, rfl⟩ := fin0_some h
    exact ⟨fun v hv => intOf_cr h0 hv, fun v hv => intOf_cr h1 hv, fun v hv => intOf_cr h2 hv, fun v hv => intOf_cr h3 hv, fun v hv => intOf_cr h4 hv, fun v hv => intOf_cr h5 hv, trivial⟩
  case stub =>
    obtain ⟨c0, l0, n0, rfl, h0, h⟩ := popI_some h
    obtain ⟨c1, l1, n1, rfl, h1, h⟩ := popI_some h
    obtain ⟨c2, l2, n2, rfl, h2, h⟩ := popI_some h
    obtain ⟨c3, l3, n3, rfl, h3, h⟩ := popI_some h
    obtain ⟨rfl, rfl⟩ := fin0_some h
    exact ⟨fun v hv => intOf_cr h0 hv, fun v hv => intOf_cr h1 hv, fun v hv => intOf_cr h2 hv, fun v hv => intOf_cr h3 hv, trivial⟩
  case span =>
    obtain ⟨c0, l0, n0, rfl, h0, h⟩ := popI_some h
    obtain ⟨c1, l1, n1, rfl, h1, h⟩ := popI_some h
    obtain ⟨c2, l2, n2, rfl, h2, h⟩ := popI_some h
    obtain ⟨c3, l3, n3, rfl, h3, h⟩ := popI_some h
    obtain ⟨rfl, rfl⟩ := fin0_some h
    exact ⟨fun v hv => intOf_cr h0 hv, fun v hv => intOf_cr h1 hv, fun v hv => intOf_cr h2 hv, fun v hv => intOf_cr h3 hv, trivial⟩
  case link =>
    obtain ⟨c0, l0, n0, rfl, h0, h⟩ := popI_some h
    obtain ⟨c1, l1, n1, rfl, h1, h⟩ := popI_some h
    obtain ⟨c2, l2, n2, rfl, h2, h⟩ := popI_some h
    obtain ⟨c3, l3, n3, rfl, h3, h⟩ := popI_some h
    obtain ⟨rfl, rfl⟩ := fin0_some h
    exact ⟨fun v hv => intOf_cr h0 hv, fun v hv => intOf_cr h1 hv, fun v hv => intOf_cr h2 hv, fun v hv => intOf_cr h3 hv, trivial⟩
  case node =>
    obtain ⟨c0, l0, n0, rfl, h0, h⟩ := popI_some h
    obtain ⟨c1, l1, n1, rfl, h1, h⟩ := popI_some h
    obtain ⟨c2, l2, n2, rfl, h2, h⟩ := popI_some h
    obtain ⟨c3, l3, n3, rfl, h3, h⟩ := popI_some h
    obtain ⟨c4, l4, n4, rfl, h4, h⟩ := popI_some h
    obtain ⟨rfl, rfl⟩ := fin0_some h
    exact ⟨fun v hv => intOf_cr h0 hv, fun v hv => intOf_cr h1 hv, fun v hv => intOf_cr h2 hv, fun v hv => intOf_cr h3 hv, fun v hv => intOf_cr h4 hv, trivial⟩
  case route =>
    obtain ⟨c0, l0, n0, rfl, h0, h⟩ := popI_some h
    obtain ⟨c1, l1, n1, rfl, h1, h⟩ := popI_some h
    obtain ⟨c2, l2, n2, rfl, h2, h⟩ := popI_some h
    obtain ⟨c3, l3, n3, rfl, h3, h⟩ := popI_some h
    obtain ⟨c4, l4, n4, rfl, h4, h⟩ := popI_some h
    obtain ⟨rfl, rfl⟩ := fin0_some h
    exact ⟨fun v hv => intOf_cr h0 hv, fun v hv => intOf_cr h1 hv, fun v hv => intOf_cr h2 hv, fun v hv => intOf_cr h3 hv, fun v hv => intOf_cr h4 hv, trivial⟩
  case outp =>
    obtain ⟨c0, l0, n0, rfl, h0, h⟩ := popI_some h
    obtain ⟨c1, l1, n1, rfl, h1, h⟩ := popI_some h
    obtain ⟨rfl, rfl⟩ := fin0_some h
    exact ⟨fun v hv => intOf_cr h0 hv, fun v hv => intOf_cr h1 hv, trivial⟩
  case lsa =>
    obtain ⟨c0, l0, n0, rfl, h0, h⟩ := popI_some h
    obtain ⟨c1, l1, n1, rfl, h1, h⟩ := popI_some h
    obtain ⟨c2, l2, n2, rfl, h2, h⟩ := popI_some h
    obtain ⟨c3, l3, n3, rfl, h3, h⟩ := popI_some h
    obtain ⟨c4, l4, n4, rfl, h4, h⟩ := popI_some h
    obtain ⟨c5, l5, n5, rfl, h5, h⟩ := popI_some h
    obtain ⟨c6, l6, n6, rfl, h6, h⟩ := popI_some h
    obtain ⟨c7, l7, n7, rfl, h7, h⟩ := popI_some h
    obtain ⟨c8, l8, n8, rfl, h8, h⟩ := popS_some h
    obtain ⟨c9, l9, n9, rfl, h9, h⟩ := popI_some h
    obtain ⟨c10, l10, n10, rfl, h10, h⟩ := popS_some h
    obtain ⟨c11, l11, n11, rfl, h11, h⟩ := popS_some h
    obtain ⟨rfl, rfl⟩ := fin0_some h
    exact ⟨fun v hv => intOf_cr h0 hv, fun v hv => intOf_cr h1 hv, fun v hv => intOf_cr h2 hv, fun v hv => intOf_cr h3 hv, fun v hv => intOf_cr h4 hv, fun v hv => intOf_cr h5 hv, fun v hv => intOf_cr h6 hv, fun v hv => intOf_cr h7 hv, fun v hv => slOf_cr h8 hv, fun v hv => intOf_cr h9 hv, fun v hv => slOf_cr h10 hv, fun v hv => slOf_cr h11 hv, trivial⟩
  case near =>
    obtain ⟨c0, l0, n0, rfl, h0, h⟩ := popI_some h
    obtain ⟨c1, l1, n1, rfl, h1, h⟩ := popI_some h
    obtain ⟨c2, l2, n2, rfl, h2, h⟩ := popI_some h
    obtain ⟨c3, l3, n3, rfl, h3, h⟩ := popI_some h
    obtain ⟨c4, l4, n4, rfl, h4, h⟩ := popI_some h
    obtain ⟨c5, l5, n5, rfl, h5, h⟩ := popB_some h
    obtain ⟨c6, l6, n6, rfl, h6, h⟩ := popI_some h
    obtain ⟨rfl, rfl⟩ := fin0_some h
    exact ⟨fun v hv => intOf_cr h0 hv, fun v hv => intOf_cr h1 hv, fun v hv => intOf_cr h2 hv, fun v hv => intOf_cr h3 hv, fun v hv => intOf_cr h4 hv, fun v hv => boolOf_cr h5 hv, fun v hv => intOf_cr h6 hv, trivial⟩
  case port =>
    obtain ⟨c0, l0, n0, rfl, h0, h⟩ := popI_some h
    obtain ⟨c1, l1, n1, rfl, h1, h⟩ := popI_some h
    obtain ⟨c2, l2, n2, rfl, h2, h⟩ := popI_some h
    obtain ⟨c3, l3, n3, rfl, h3, h⟩ := popI_some h
    obtain ⟨c4, l4, n4, rfl, h4, h⟩ := popI_some h
    obtain ⟨c5, l5, n5, rfl, h5, h⟩ := popI_some h
    obtain ⟨c6, l6, n6, rfl, h6, h⟩ := popI_some h
    obtain ⟨c7, l7, n7, rfl, h7, h⟩ := popI_some h
    obtain ⟨c8, l8, n8, rfl, h8, h⟩ := popI_some h
    obtain ⟨c9, l9, n9, rfl, h9, h⟩ := popS_some h
    obtain ⟨c10, l10, n10, rfl, h10, h⟩ := popS_some h
    obtain ⟨rfl, rfl⟩ := fin0_some h
    exact ⟨fun v hv => intOf_cr h0 hv, fun v hv => intOf_cr h1 hv, fun v hv => intOf_cr h2 hv, fun v hv => intOf_cr h3 hv, fun v hv => intOf_cr h4 hv, fun v hv => intOf_cr h5 hv, fun v hv => intOf_cr h6 hv, fun v hv => intOf_cr h7 hv, fun v hv => intOf_cr h8 hv, fun v hv => slOf_cr h9 hv, fun v hv => slOf_cr h10 hv, trivial⟩
theorem ofCells_csr {k : K} {cs : List C} {y : ty k} {vs : List Value} (h : ofCells k cs = some y) (hc : CsR w μ G cs vs) : CsR w μ G (cells k y) vs := (ofCells_le h).csr hc
end
end Go.Proofs.Ytoknhjmcoleejaa
