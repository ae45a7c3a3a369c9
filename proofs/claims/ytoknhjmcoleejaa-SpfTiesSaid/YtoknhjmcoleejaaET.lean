/- A function's entry and its results: from the body's word EV to a contract. No condition. -/
import Derived.Test.YtoknhjmcoleejaaES
set_option linter.unusedVariables false
set_option linter.unusedSimpArgs false
namespace Go.Proofs.Ytoknhjmcoleejaa
open Go.RowKit

def resV (st : St) : ResultVar → Option V1
  | .tmp t => match look st.s t with
    | some (.v x) => some x
    | _ => none
  | .cell a t => match look st.s a with
    | some (.v (.c p)) => match readAt ⟨[], st.b⟩ p, tySize t with
      | some ([], l, _), some n => mkV t (l.take n)
      | _, _ => none
    | _ => none
def resVs (st : St) : List ResultVar → Option (List V1)
  | [] => some []
  | x :: l => match resV st x, resVs st l with
    | some v, some vs => some (v :: vs)
    | _, _ => none
def freshC (st : St) : C → Bool
  | .val _ => true
  | .own b => match look st.b b with
    | some (.arr k _) => flatK k
    | some (.deep _ _ none) => true
    | _ => false
  | _ => false
def freshV (st : St) : V1 → Bool
  | .c x => freshC st x
  | .agg cs => cs.all (freshC st)
/-- The values as they leave the function: a row of one's own is a slice. -/
def outVs (st : St) : List TypeId → List V1 → Option (List V1)
  | [], [] => some []
  | t :: ts, x :: l => match convA ⟨[], st.b⟩ t (.v x), outVs st ts l with
    | some (.v y, _), some ys => some (y :: ys)
    | _, _ => none
  | _, _ => none
def packV : List V1 → AV
  | [x] => .v x
  | l => .tup l
/-- Does the state at the end give the promised result? -/
def endOK (rs : List ResultVar) (ts : List TypeId) (st : St) : SR → Prop
  | .fresh v => ∃ xs ys, resVs st rs = some xs ∧ xs.all (freshV st) = true ∧ outVs st ts xs = some ys ∧ packV ys = v
  | .lent v => ∃ xs ys, resVs st rs = some xs ∧ outVs st ts xs = some ys ∧ packV ys = v
  | .row k xs => flatK k = true ∧ ((∃ b, resVs st rs = some [.c (.own b)] ∧ look st.b b = some (.arr k xs)) ∨ (resVs st rs = some [.c nilsl] ∧ xs = []))
  | .grow _ _ => False
def endQ (rs : List ResultVar) (ts : List TypeId) (v : SR) : Exit → St → Prop
  | .normal, st => endOK rs ts st v
  | .ret, st => endOK rs ts st v
  | _, _ => False
def enum : Nat → List AV → List (Nat × AV)
  | _, [] => []
  | n, x :: l => (n, x) :: enum (n + 1) l

section
variable {R : RT} {P : Program} {w0 w w' : World} {N : Nat} {μ μ' : Nat → Gh} {st : St} {a : Act}
theorem flatK_noSl {k : K} (h : flatK k = true) (x : ty k) : ∀ c, c ∈ cells k x → noSlC c = true := by
  have : (cells k x).all noSlC = true := by cases k <;> first | rfl | cases h
  exact List.all_eq_true.1 this
theorem cr_noSl {G G' : Nat → Prop} {c : C} {u : Value} (h : CR w μ G c u) (hn : noSlC c = true) : CR w μ' G' c u := by
  cases c with
  | val v => cases h with | val _ h1 => exact .val _ h1
  | _ => cases hn
theorem csr_noSl {G G' : Nat → Prop} : ∀ {cs : List C} {vs : List Value}, CsR w μ G cs vs → (∀ c, c ∈ cs → noSlC c = true) → CsR w μ' G' cs vs
  | [], [], _, _ => trivial
  | c :: cs, v :: vs, h, hn => ⟨cr_noSl h.1 (hn c (by simp)), csr_noSl h.2 (fun c hc => hn c (by simp [hc]))⟩
  | [], _ :: _, h, _ => h.elim
  | _ :: _, [], h, _ => h.elim
theorem flatC_noSl {k : K} (h : flatK k = true) (xs : List (ty k)) : ∀ c, c ∈ flatC k xs → noSlC c = true := by
  intro c hc
  unfold flatC at hc
  obtain ⟨x, _, hx⟩ := List.mem_flatMap.1 hc
  exact flatK_noSl h x c hx
/-- A row of one's own, as a slice, with the place of its cells. -/
theorem sl_of_row' {base : Nat} {k : K} {xs : List (ty k)} {vals : List Value} {u : Value} {G G' : Nat → Prop} (h : w.ownsRow base (elemT k) (width k) u xs.length vals) (hc : CsR w μ G (flatC k xs) vals)
    (hG : (∀ B, base ≤ B → G' B)) (hG2 : (∀ B, G B → G' B) ∨ flatK k = true) : CR w dg G' (.sl k xs) u := by
  rcases h.2 with ⟨h1, h2⟩ | ⟨g, cap, cur, h1, hbg, _, h3, _⟩
  · have := List.eq_nil_of_length_eq_zero h2
    subst this
    rw [h1]
    exact .slnil
  · have hat : At w ⟨g, 0, none⟩ vals := fun j v hj => h.cells (by rw [h1]; rfl) j v hj
    rw [h1]
    have hget : ∀ i x, xs[i]? = some x → ∀ j c, (cells k x)[j]? = some c → ∃ v, vals[i * width k + j]? = some v ∧ CR w μ G c v := by
      intro i x hx j c hj
      have hjl : j < width k := by have := (List.getElem?_eq_some_iff.1 hj).1; rwa [cells_length] at this
      have := flatC_get k xs i j x hx hjl
      rw [hj] at this
      exact hc.get this
    refine CR.sl (fun p => vals.getD p undef) h3 (fun _ => hG g hbg) (fun i x hx j c hj => ?_) (fun i x hx j c hj => ?_)
    · obtain ⟨v, hv, _⟩ := hget i x hx j c hj
      rw [hat _ v hv]
      simp [List.getD_eq_getElem?_getD, hv]
    · obtain ⟨v, hv, hcr⟩ := hget i x hx j c hj
      have : vals.getD (i * width k + j) undef = v := by simp [List.getD_eq_getElem?_getD, hv]
      simp only [this]
      rcases hG2 with hg | hf
      · exact cr_dead hcr (cells_noref k x (List.mem_of_getElem? hj)) (fun a v h1 _ => hg _ h1)
      · exact cr_noSl hcr (flatK_noSl hf x c (List.mem_of_getElem? hj))
theorem convC_l {r : RS} (hm : Mem R w0 μ r.b w) {t : TypeId} {c c' : C} {b : List Nat} {u : Value} {G' : Nat → Prop} (hG : ∀ B, w0.heap.size ≤ B → G' B) (h : convC r t c = some (c', b)) (hc : CR w μ (Good R μ) c u)
    (hq : (∀ B, Good R μ B → G' B) ∨ freshC ⟨[], r.b⟩ c = true) : CR w dg G' c' u := by
  unfold convC at h
  split at h
  · split at h
    · rename_i k xs hl
      simp only [Option.some.injEq, Prod.mk.injEq] at h
      obtain ⟨rfl, rfl⟩ := h
      obtain ⟨vals, h1, h2, h3, h4⟩ := row_shape hm hl hc
      refine sl_of_row' h1 h2 hG (hq.imp id fun hf => ?_)
      simp only [freshC, hl] at hf
      exact hf
    · rename_i k xs hl
      simp only [Option.some.injEq, Prod.mk.injEq] at h
      obtain ⟨rfl, rfl⟩ := h
      obtain ⟨f, vals, h1, h2, h3⟩ := deep_shape hm hl hc
      exact sl_of_deep h2 hG
    · cases h
  · split at h
    · simp only [Option.some.injEq, Prod.mk.injEq] at h
      obtain ⟨rfl, rfl⟩ := h
      cases hc
      exact .slnil
    · cases h
  · simp only [Option.some.injEq, Prod.mk.injEq] at h
    obtain ⟨rfl, rfl⟩ := h
    exact cr_noSl hc rfl
  · simp only [Option.some.injEq, Prod.mk.injEq] at h
    obtain ⟨rfl, rfl⟩ := h
    rcases hq with hg | hf
    · exact cr_dead hc rfl (fun a v h _ => hg _ h)
    · cases hf
  · simp only [Option.some.injEq, Prod.mk.injEq] at h
    obtain ⟨rfl, rfl⟩ := h
    rcases hq with hg | hf
    · exact cr_dead hc rfl (fun a v h _ => hg _ h)
    · cases hf
  · cases h
theorem convCs_l {r : RS} (hm : Mem R w0 μ r.b w) {G' : Nat → Prop} (hG : ∀ B, w0.heap.size ≤ B → G' B) {fs : List (Nat × TypeId)} : ∀ {n : Nat} {l l' : List C} {b : List Nat} {us : List Value}, convCs r fs n l = some (l', b) → CsR w μ (Good R μ) l us →
    ((∀ B, Good R μ B → G' B) ∨ l.all (freshC ⟨[], r.b⟩) = true) → CsR w dg G' l' us
  | n, [], l', b, us, h, hc, hq => by
    simp only [convCs, Option.some.injEq, Prod.mk.injEq] at h
    obtain ⟨rfl, rfl⟩ := h
    cases us with
    | nil => exact trivial
    | cons _ _ => exact hc.elim
  | n, c :: l, l', b, [], h, hc, hq => hc.elim
  | n, c :: l, l', b, u :: us, h, hc, hq => by
    simp only [convCs] at h
    split at h
    · rename_i c' b1 l1 bs h1 h2
      simp only [Option.some.injEq, Prod.mk.injEq] at h
      obtain ⟨rfl, rfl⟩ := h
      refine ⟨convC_l hm hG h1 hc.1 (hq.imp id fun hf => ?_), convCs_l hm hG h2 hc.2 (hq.imp id fun hf => ?_)⟩
      · simp only [List.all_cons, Bool.and_eq_true] at hf; exact hf.1
      · simp only [List.all_cons, Bool.and_eq_true] at hf; exact hf.2
    · cases h
theorem convV_l {r : RS} (hm : Mem R w0 μ r.b w) {G' : Nat → Prop} (hG : ∀ B, w0.heap.size ≤ B → G' B) {t : TypeId} {x y : V1} {b : List Nat} {u : Value} (h : convA r t (.v x) = some (.v y, b)) (hx : V1R w μ (Good R μ) x u)
    (hq : (∀ B, Good R μ B → G' B) ∨ freshV ⟨[], r.b⟩ x = true) : V1R w dg G' y u := by
  cases x with
  | c c =>
    simp only [convA] at h
    split at h
    · rename_i c' b' hc
      simp only [Option.some.injEq, Prod.mk.injEq, AV.v.injEq] at h
      obtain ⟨rfl, rfl⟩ := h
      exact convC_l hm hG hc hx hq
    · cases h
  | agg cs =>
    simp only [convA] at h
    split at h
    · split at h
      · rename_i cs' b' hc
        simp only [Option.some.injEq, Prod.mk.injEq, AV.v.injEq] at h
        obtain ⟨rfl, rfl⟩ := h
        obtain ⟨vs, rfl, hv⟩ := hx
        exact ⟨vs, rfl, convCs_l hm hG hc hv hq⟩
      · cases h
    · cases h
theorem outVs_l (hm : Mem R w0 μ st.b w) {G' : Nat → Prop} (hG : ∀ B, w0.heap.size ≤ B → G' B) : ∀ {ts : List TypeId} {xs ys : List V1} {us : List Value}, outVs st ts xs = some ys → V1sR w μ (Good R μ) xs us →
    ((∀ B, Good R μ B → G' B) ∨ xs.all (freshV st) = true) → V1sR w dg G' ys us
  | [], [], ys, us, h, hx, hq => by
    simp only [outVs, Option.some.injEq] at h
    subst h
    cases us with
    | nil => exact trivial
    | cons _ _ => exact hx.elim
  | t :: ts, x :: xs, ys, [], h, hx, hq => hx.elim
  | t :: ts, x :: xs, ys, u :: us, h, hx, hq => by
    simp only [outVs] at h
    split at h
    · rename_i y b ys' h1 h2
      simp only [Option.some.injEq] at h
      subst h
      refine ⟨convV_l (r := ⟨[], st.b⟩) hm hG h1 hx.1 (hq.imp id fun hf => ?_), outVs_l hm hG h2 hx.2 (hq.imp id fun hf => ?_)⟩
      · simp only [List.all_cons, Bool.and_eq_true] at hf; exact hf.1
      · simp only [List.all_cons, Bool.and_eq_true] at hf; exact hf.2
    · cases h
  | [], _ :: _, ys, us, h, hx, hq => by simp [outVs] at h
  | _ :: _, [], ys, us, h, hx, hq => by simp [outVs] at h

theorem resV_run (tok : TOK P) (hs : SRel R w0 N μ st a w) {rv : ResultVar} {x : V1} (h : resV st rv = some x) :
    ∃ u, ((match rv with | .tmp t => pure (a.tmps.getD t undef) | .cell b t => do loadVar t (← asAddr (a.tmps.getD b undef)) : Sem Value)).run P w = .ok u w ∧ V1R w μ (Good R μ) x u := by
  cases rv with
  | tmp t =>
    simp only [resV] at h
    split at h
    · rename_i y hl
      obtain rfl := Option.some.inj h
      obtain ⟨u, h1, h2⟩ := hs.sl _ _ hl
      exact ⟨u, by simp [Array.getD_eq_getD_getElem?, h1], h2⟩
    · cases h
  | cell b t =>
    simp only [resV] at h
    split at h
    · rename_i p hl
      split at h
      · rename_i l rb n hrd hsz
        obtain ⟨u, h1, h2⟩ := hs.sl _ _ hl
        obtain ⟨A, vs, hR⟩ := readAt_r (r := ⟨[], st.b⟩) hs.mem h2 hrd rfl
        unfold tySize at hsz
        split at hsz
        · rename_i ty hty
          obtain rfl := Option.some.inj hsz
          obtain ⟨v, h3, h4⟩ := load_run (tok.ty _ _ hty) hR.at_ hR.cs hty h
          refine ⟨v, ?_, h4⟩
          have hu := hR.p
          subst hu
          simpa [Array.getD_eq_getD_getElem?, h1, asAddr, Instr.loadAt, Instr.sureAddr] using h3
        · cases hsz
      · cases h
    · cases h
end
end Go.Proofs.Ytoknhjmcoleejaa
