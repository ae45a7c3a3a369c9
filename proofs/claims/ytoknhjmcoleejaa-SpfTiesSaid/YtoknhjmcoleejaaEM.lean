/- Calls by proved contracts. No condition. -/
import Derived.Test.YtoknhjmcoleejaaEX
set_option linter.unusedVariables false
set_option linter.unusedSimpArgs false
namespace Go.Proofs.Ytoknhjmcoleejaa
open Go.RowKit

def AVsR (w : World) (μ : Nat → Gh) (G : Nat → Prop) : List AV → List Value → Prop
  | [], [] => True
  | x :: xs, v :: vs => AVR w μ G x v ∧ AVsR w μ G xs vs
  | _, _ => False
/-- What a contract says of a call's result. -/
def Res (P : Program) (f : FuncId) (w : World) (G : Nat → Prop) (us : List Value) : SR → Prop
  | .fresh v => Calls P f us.toArray w fun e w' => ∃ u, e = .returned u ∧ Below w.heap.size w w' ∧ AVR w' dg (fun B => w.heap.size ≤ B) v u
  | .lent v => Calls P f us.toArray w fun e w' => ∃ u, e = .returned u ∧ Below w.heap.size w w' ∧ AVR w' dg (fun B => G B ∨ w.heap.size ≤ B) v u
  | .row k xs => Calls P f us.toArray w fun e w' => ∃ u vals, e = .returned u ∧ Below w.heap.size w w' ∧ w'.ownsRow w.heap.size (elemT k) (width k) u xs.length vals ∧ CsR w' dg (fun B => w.heap.size ≤ B ∧ u.ownBlock ≠ some B) (flatC k xs) vals
  | .grow k xs => ∀ base u0 us0 n0 vals0, us = u0 :: us0 → base ≤ w.heap.size → w.ownsRow base (elemT k) (width k) u0 n0 vals0 → Calls P f us.toArray w fun e w' => ∃ u vals, e = .returned u ∧ w.grownBy w' u0.ownBlock ∧
      w'.ownsRow base (elemT k) (width k) u xs.length vals ∧ (u.ownBlock = u0.ownBlock ∨ ∀ B, u.ownBlock = some B → w.heap.size ≤ B) ∧ CsR w' dg (fun _ => False) (flatC k xs) vals
structure SumOK (P : Program) (f : FuncId) (sm : Summary) : Prop where
  ent : ∃ fn, P.funcs[f]? = some fn ∧ (fn.name == "runtime.NumGoroutine") = false ∧ fn.body.isNone = false
  res : ∀ (w : World) (G : Nat → Prop) (as : List AV) (us : List Value) (cs : List Bool) (res : SR), AVsR w dg G as us → sm as = some (cs, res) → cs.all id = true → Res P f w G us res
def SigOK (P : Program) (sig : List (Nat × Summary)) : Prop := ∀ f sm, look sig f = some sm → SumOK P f sm

section
variable {R : RT} {P : Program} {w0 w w' : World} {N : Nat} {ops : Array Oper} {μ μ' : Nat → Gh} {r : RS} {a : Act} {ch : List (Nat × Bool)} {o : Oper}
theorem cr_dead {G G' : Nat → Prop} {c : C} {u : Value} (h : CR w μ G c u) (hr : refC c = []) (hg : ∀ a v, G a.block → w.cell? a = some v → G' a.block) : CR w dg G' c u :=
  h.mono (fun a v h1 h2 => ⟨h2, hg a v h1 h2⟩) (fun b hb => by rw [hr] at hb; cases hb)
/-- A row of one's own, read. -/
theorem sl_of_row {base : Nat} {k : K} {xs : List (ty k)} {vals : List Value} {u : Value} {G : Nat → Prop} (h : w.ownsRow base (elemT k) (width k) u xs.length vals) (hc : CsR w μ G (flatC k xs) vals) : CR w dg (fun _ => True) (.sl k xs) u := by
  rcases h.2 with ⟨h1, h2⟩ | ⟨g, cap, cur, h1, _, _, h3, _⟩
  · have := List.eq_nil_of_length_eq_zero h2
    subst this
    rw [h1]
    exact .slnil
  · have hat : At w ⟨g, 0, none⟩ vals := fun j v hj => h.cells (by rw [h1]; rfl) j v hj
    rw [h1]
    have hget : ∀ i x, xs[i]? = some x → ∀ j c, (cells k x)[j]? = some c → ∃ v, vals[i * width k + j]? = some v ∧ CR w μ G c v := by
      intro i x hx j c hj
      have hjl : j < width k := by have := (List.getElem?_eq_some_iff.1 hj).1; rwa [cells_length] at this
      have := flatC_get k xs i j x hx hjl
      rw [hj] at this
      exact hc.get this
    refine CR.sl (fun p => vals.getD p undef) h3 (fun _ => trivial) (fun i x hx j c hj => ?_) (fun i x hx j c hj => ?_)
    · obtain ⟨v, hv, _⟩ := hget i x hx j c hj
      rw [hat _ v hv]
      simp [List.getD_eq_getElem?_getD, hv]
    · obtain ⟨v, hv, hcr⟩ := hget i x hx j c hj
      have : vals.getD (i * width k + j) undef = v := by simp [List.getD_eq_getElem?_getD, hv]
      simp only [this]
      exact cr_dead hcr (cells_noref k x (List.mem_of_getElem? hj)) (fun _ _ _ _ => trivial)
theorem sl_gen {base : Nat} {k : K} {xs : List (ty k)} {vals : List Value} {u : Value} {G' : Nat → Prop} (h : w.ownsRow base (elemT k) (width k) u xs.length vals) (hG : ∀ B, base ≤ B → G' B)
    (hget : ∀ (i : Nat) (x : ty k), xs[i]? = some x → ∀ (j : Nat) (c : C), (cells k x)[j]? = some c → ∃ v, vals[i * width k + j]? = some v ∧ CR w dg G' c v) : CR w dg G' (.sl k xs) u := by
  rcases h.2 with ⟨h1, h2⟩ | ⟨g, cap, cur, h1, hbg, _, h3, _⟩
  · have := List.eq_nil_of_length_eq_zero h2
    subst this
    rw [h1]
    exact .slnil
  · have hat : At w ⟨g, 0, none⟩ vals := fun j v hj => h.cells (by rw [h1]; rfl) j v hj
    rw [h1]
    refine CR.sl (fun p => vals.getD p undef) h3 (fun _ => hG g hbg) (fun i x hx j c hj => ?_) (fun i x hx j c hj => ?_)
    · obtain ⟨v, hv, _⟩ := hget i x hx j c hj
      rw [hat _ v hv]
      simp [List.getD_eq_getElem?_getD, hv]
    · obtain ⟨v, hv, hcr⟩ := hget i x hx j c hj
      have : vals.getD (i * width k + j) undef = v := by simp [List.getD_eq_getElem?_getD, hv]
      simp only [this]
      exact hcr
/-- A row whose elements own rows, read. -/
theorem sl_of_deep {base : Nat} {k : K} {xs : List (ty k)} {f : Nat → Nat → Value} {vals : List Value} {u : Value} {G : Nat → Prop} (h : DeepOK base w k xs none u f vals) (hG : ∀ B, base ≤ B → G B) : CR w dg G (.sl k xs) u := by
  refine sl_gen h.row hG (fun i x hx j c hc => ?_)
  obtain ⟨u', h1, h2⟩ := h.cell i x hx j c hc
  refine ⟨u', h1, ?_⟩
  cases c with
  | sl k' ys =>
    obtain ⟨_, _, h3⟩ := h2
    obtain ⟨_, h4, lv, h5, h6⟩ := h3 (by rintro ⟨_, hh, _⟩; cases hh)
    refine sl_gen h5 hG (fun i y hy j c hc => ?_)
    have hjl : j < width k' := by have := (List.getElem?_eq_some_iff.1 hc).1; rwa [cells_length] at this
    have := flatC_get k' ys i j y hy hjl
    rw [hc] at this
    obtain ⟨v, h7, h8⟩ := h6.get this
    obtain ⟨v', rfl⟩ := flatK_val h4 y c (List.mem_of_getElem? hc)
    refine ⟨v, h7, ?_⟩
    cases h8 with
    | val _ h9 => exact .val _ h9
  | val v => obtain ⟨rfl, h3⟩ := h2; exact .val _ h3
  | _ => exact h2.elim
theorem convC_r (hm : Mem R w0 μ r.b w) {t : TypeId} {c c' : C} {b : List Nat} {u : Value} (h : convC r t c = some (c', b)) (hc : CR w μ (Good R μ) c u) : CR w dg (fun _ => True) c' u ∧ (b = [] → CR w dg (Good R μ) c' u) := by
  unfold convC at h
  split at h
  · split at h
    · rename_i k xs hl
      simp only [Option.some.injEq, Prod.mk.injEq] at h
      obtain ⟨rfl, rfl⟩ := h
      obtain ⟨vals, h1, h2, h3, h4⟩ := row_shape hm hl hc
      exact ⟨sl_of_row h1 h2, fun h => by cases h⟩
    · rename_i k xs hl
      simp only [Option.some.injEq, Prod.mk.injEq] at h
      obtain ⟨rfl, rfl⟩ := h
      obtain ⟨f, vals, h1, h2, h3⟩ := deep_shape hm hl hc
      exact ⟨sl_of_deep h2 (fun _ _ => trivial), fun h => by cases h⟩
    · cases h
  · split at h
    · simp only [Option.some.injEq, Prod.mk.injEq] at h
      obtain ⟨rfl, rfl⟩ := h
      cases hc
      exact ⟨.slnil, fun _ => .slnil⟩
    · cases h
  · simp only [Option.some.injEq, Prod.mk.injEq] at h
    obtain ⟨rfl, rfl⟩ := h
    exact ⟨cr_dead hc rfl (fun _ _ _ _ => trivial), fun _ => cr_dead hc rfl (fun _ _ h _ => h)⟩
  · simp only [Option.some.injEq, Prod.mk.injEq] at h
    obtain ⟨rfl, rfl⟩ := h
    exact ⟨cr_dead hc rfl (fun _ _ _ _ => trivial), fun _ => cr_dead hc rfl (fun _ _ h _ => h)⟩
  · simp only [Option.some.injEq, Prod.mk.injEq] at h
    obtain ⟨rfl, rfl⟩ := h
    exact ⟨cr_dead hc rfl (fun _ _ _ _ => trivial), fun _ => cr_dead hc rfl (fun _ _ h _ => h)⟩
  · cases h
theorem capC_r (hm : Mem R w0 μ r.b w) {c c' : C} {b : List Nat} {u : Value} (h : capC r c = some (c', b)) (hc : CR w μ (Good R μ) c u) : CR w dg (fun _ => True) c' u ∧ (b = [] → CR w dg (Good R μ) c' u) := by
  unfold capC at h
  split at h
  · split at h
    · rename_i cs t hl
      split at h
      · rename_i k hk
        split at h
        · rename_i x hx
          simp only [Option.some.injEq, Prod.mk.injEq] at h
          obtain ⟨rfl, rfl⟩ := h
          refine ⟨?_, fun h => by cases h⟩
          obtain ⟨B, vs, h1, h2, h3, h4⟩ := hm.bl _ _ hl
          cases hc with
          | ptr hb =>
            rw [h1] at hb
            injection hb with hb
            subst hb
            have h5 := ofCells_csr hx h4
            have hat := box_at h3 0
            have h00 : (⟨B, 0, none⟩ : Addr).add 0 = ⟨B, 0, none⟩ := by simp [Addr.add]
            have key : ∀ j c, (cells k x)[j]? = some c → ∃ v, vs.toList[j]? = some v ∧ CR w μ (Good R μ) c v := fun j c hj => h5.get hj
            have := CR.rel (w := w) (μ := dg) (G := fun _ => True) (k := k) (x := x) (off := 0) (A := ⟨B, 0, none⟩) (fun j => vs.toList.getD j undef) trivial (fun j c hj => by
              obtain ⟨v, hv, _⟩ := key j c hj
              rw [hat j v (by simpa using hv)]
              simp only [List.getD_eq_getElem?_getD, hv]; rfl) (fun j c hj => by
              obtain ⟨v, hv, hcr⟩ := key j c hj
              simp only [List.getD_eq_getElem?_getD, hv]
              exact cr_dead hcr (cells_noref k x (List.mem_of_getElem? hj)) (fun _ _ _ _ => trivial))
            rwa [h00] at this
        · cases h
      · cases h
    · cases h
  · simp only [Option.some.injEq, Prod.mk.injEq] at h
    obtain ⟨rfl, rfl⟩ := h
    exact ⟨cr_dead hc rfl (fun _ _ _ _ => trivial), fun _ => cr_dead hc rfl (fun _ _ h _ => h)⟩
  · simp only [Option.some.injEq, Prod.mk.injEq] at h
    obtain ⟨rfl, rfl⟩ := h
    exact ⟨cr_dead hc rfl (fun _ _ _ _ => trivial), fun _ => cr_dead hc rfl (fun _ _ h _ => h)⟩
  · cases h
theorem capVs_r (hm : Mem R w0 μ r.b w) : ∀ {l l' : List V1} {b : List Nat} {us : List Value}, capVs r l = some (l', b) → V1sR w μ (Good R μ) l us → V1sR w dg (fun _ => True) l' us ∧ (b = [] → V1sR w dg (Good R μ) l' us)
  | [], l', b, us, h, hc => by
    simp only [capVs, Option.some.injEq, Prod.mk.injEq] at h
    obtain ⟨rfl, rfl⟩ := h
    cases us with
    | nil => exact ⟨trivial, fun _ => trivial⟩
    | cons _ _ => exact hc.elim
  | c :: l, l', b, [], h, hc => hc.elim
  | .agg cs :: l, l', b, u :: us, h, hc => by cases h
  | .c c :: l, l', b, u :: us, h, hc => by
    simp only [capVs] at h
    split at h
    · rename_i c' b1 l1 bs h1 h2
      simp only [Option.some.injEq, Prod.mk.injEq] at h
      obtain ⟨rfl, rfl⟩ := h
      have q1 := capC_r hm h1 hc.1
      have q2 := capVs_r hm h2 hc.2
      refine ⟨⟨q1.1, q2.1⟩, fun hb => ?_⟩
      have := List.append_eq_nil_iff.1 hb
      exact ⟨q1.2 this.1, q2.2 this.2⟩
    · cases h
theorem convCs_r (hm : Mem R w0 μ r.b w) {fs : List (Nat × TypeId)} : ∀ {n : Nat} {l l' : List C} {b : List Nat} {us : List Value}, convCs r fs n l = some (l', b) → CsR w μ (Good R μ) l us → CsR w dg (fun _ => True) l' us ∧ (b = [] → CsR w dg (Good R μ) l' us)
  | n, [], l', b, us, h, hc => by
    simp only [convCs, Option.some.injEq, Prod.mk.injEq] at h
    obtain ⟨rfl, rfl⟩ := h
    cases us with
    | nil => exact ⟨trivial, fun _ => trivial⟩
    | cons _ _ => exact hc.elim
  | n, c :: l, l', b, [], h, hc => hc.elim
  | n, c :: l, l', b, u :: us, h, hc => by
    simp only [convCs] at h
    split at h
    · rename_i c' b1 l1 bs h1 h2
      simp only [Option.some.injEq, Prod.mk.injEq] at h
      obtain ⟨rfl, rfl⟩ := h
      have q1 := convC_r hm h1 hc.1
      have q2 := convCs_r hm h2 hc.2
      refine ⟨⟨q1.1, q2.1⟩, fun hb => ?_⟩
      have := List.append_eq_nil_iff.1 hb
      exact ⟨q1.2 this.1, q2.2 this.2⟩
    · cases h
theorem convA_r (hm : Mem R w0 μ r.b w) {t : TypeId} {x x' : AV} {b : List Nat} {u : Value} (h : convA r t x = some (x', b)) (hx : AVR w μ (Good R μ) x u) : AVR w dg (fun _ => True) x' u ∧ (b = [] → AVR w dg (Good R μ) x' u) := by
  unfold convA at h
  split at h
  · split at h
    · rename_i c' b' hc
      simp only [Option.some.injEq, Prod.mk.injEq] at h
      obtain ⟨rfl, rfl⟩ := h
      exact convC_r hm hc hx
    · cases h
  · split at h
    · split at h
      · rename_i cs' b' hc
        simp only [Option.some.injEq, Prod.mk.injEq] at h
        obtain ⟨rfl, rfl⟩ := h
        obtain ⟨vs, rfl, hv⟩ := hx
        have q := convCs_r hm hc hv
        exact ⟨⟨vs, rfl, q.1⟩, fun hb => ⟨vs, rfl, q.2 hb⟩⟩
      · cases h
    · cases h
  · rename_i f l
    split at h
    · rename_i l' b' hl
      simp only [Option.some.injEq, Prod.mk.injEq] at h
      obtain ⟨rfl, rfl⟩ := h
      obtain ⟨us, rfl, hv⟩ := hx
      have q := capVs_r hm hl hv
      exact ⟨⟨us, rfl, q.1⟩, fun hb => ⟨us, rfl, q.2 hb⟩⟩
    · cases h
  · cases h
theorem convAs_r (hm : Mem R w0 μ r.b w) : ∀ {ts : List TypeId} {l l' : List AV} {b : List Nat} {us : List Value}, convAs r ts l = some (l', b) → AVsR w μ (Good R μ) l us → AVsR w dg (fun _ => True) l' us ∧ (b = [] → AVsR w dg (Good R μ) l' us)
  | [], [], l', b, us, h, hc => by
    simp only [convAs, Option.some.injEq, Prod.mk.injEq] at h
    obtain ⟨rfl, rfl⟩ := h
    cases us with
    | nil => exact ⟨trivial, fun _ => trivial⟩
    | cons _ _ => exact hc.elim
  | t :: ts, c :: l, l', b, [], h, hc => hc.elim
  | t :: ts, c :: l, l', b, u :: us, h, hc => by
    simp only [convAs] at h
    split at h
    · rename_i c' b1 l1 bs h1 h2
      simp only [Option.some.injEq, Prod.mk.injEq] at h
      obtain ⟨rfl, rfl⟩ := h
      have q1 := convA_r hm h1 hc.1
      have q2 := convAs_r hm h2 hc.2
      refine ⟨⟨q1.1, q2.1⟩, fun hb => ?_⟩
      have := List.append_eq_nil_iff.1 hb
      exact ⟨q1.2 this.1, q2.2 this.2⟩
    · cases h
  | [], _ :: _, l', b, us, h, hc => by cases h
  | _ :: _, [], l', b, us, h, hc => by cases h
theorem ownsRow_base {base base' : Nat} {e : TypeId} {size n : Nat} {v : Value} {xs : List Value} (h : w.ownsRow base e size v n xs) (hb : ∀ B, v.ownBlock = some B → base' ≤ B) : w.ownsRow base' e size v n xs := by
  refine ⟨h.1, ?_⟩
  rcases h.2 with h1 | ⟨g, cap, cur, h1, h2, h3⟩
  · exact .inl h1
  · exact .inr ⟨g, cap, cur, h1, hb g (by rw [h1]; rfl), h3⟩
theorem row_slice {base : Nat} {e : TypeId} {size n : Nat} {v : Value} {xs : List Value} (h : w.ownsRow base e size v n xs) : ∃ a n c, v = .slice a n c := by
  rcases h.2 with ⟨h1, _⟩ | ⟨g, cap, cur, h1, _⟩
  · exact ⟨_, _, _, h1⟩
  · exact ⟨_, _, _, h1⟩
theorem dg_noref {G : Nat → Prop} {x : AV} {u : Value} (h : AVR w dg G x u) (b : Nat) : b ∉ refAV x := h.dead_ref rfl
theorem csr_noref {G : Nat → Prop} {cs : List C} {vs : List Value} (h : CsR w dg G cs vs) (b : Nat) : b ∉ refCs cs :=
  AVR.dead_ref (x := .v (.agg cs)) (u := .agg vs.toArray) (μ := dg) (G := G) ⟨vs.toArray, rfl, by simpa using h⟩ rfl
/-- Values without slices hang on no memory. -/
theorem noSl_avr {G G' : Nat → Prop} {v : AV} {u : Value} (hn : noSl v = true) (hav : AVR w μ G v u) : AVR w μ' G' v u := by
  have hC : ∀ {c : C} {v : Value}, noSlC c = true → CR w μ G c v → CR w μ' G' c v := by
    intro c v hc hcr
    cases c <;> simp only [noSlC] at hc <;> first | (cases hc; done) | (cases hcr; rename_i h1; exact .val _ h1)
  have hCs : ∀ {cs : List C} {vs : List Value}, cs.all noSlC = true → CsR w μ G cs vs → CsR w μ' G' cs vs := by
    intro cs
    induction cs with
    | nil => intro vs _ hc; cases vs with | nil => trivial | cons _ _ => exact hc.elim
    | cons c cs ih =>
      intro vs ha hc
      cases vs with
      | nil => exact hc.elim
      | cons v vs =>
        simp only [List.all_cons, Bool.and_eq_true] at ha
        exact ⟨hC ha.1 hc.1, ih ha.2 hc.2⟩
  have hV : ∀ {x : V1} {v : Value}, noSlV x = true → V1R w μ G x v → V1R w μ' G' x v := by
    intro x v hx hv
    cases x with
    | c c => exact hC hx hv
    | agg cs => obtain ⟨vs, rfl, hc⟩ := hv; exact ⟨vs, rfl, hCs hx hc⟩
  have hVs : ∀ {l : List V1} {vs : List Value}, l.all noSlV = true → V1sR w μ G l vs → V1sR w μ' G' l vs := by
    intro l
    induction l with
    | nil => intro vs _ hl; cases vs with | nil => trivial | cons _ _ => exact hl.elim
    | cons x l ih =>
      intro vs ha hl
      cases vs with
      | nil => exact hl.elim
      | cons v vs =>
        simp only [List.all_cons, Bool.and_eq_true] at ha
        exact ⟨hV ha.1 hl.1, ih ha.2 hl.2⟩
  cases v with
  | v x => exact hV hn hav
  | tup l => obtain ⟨us, rfl, hl⟩ := hav; exact ⟨us, rfl, hVs hn hl⟩
  | fn f l => cases hn
theorem avs_of (c : Ctx P R w0 N ops μ r a w ch) {l : List Operand} {as : List AV} (h : rhos r ch l = some as) : AVsR w μ (Good R μ) as (l.map a.eval) := by
  obtain ⟨h1, h2⟩ := rhos_r c h
  clear h
  revert h1 h2
  induction as generalizing l with
  | nil => intro h1 _; obtain rfl : l = [] := List.eq_nil_of_length_eq_zero (by simpa using h1.symm); trivial
  | cons x as ih =>
    intro h1 h2
    obtain _ | ⟨p, l⟩ := l
    · simp at h1
    · exact ⟨h2 0 p _ rfl rfl, ih (by simpa using h1) (fun i y u hy hu => h2 (i + 1) y u (by simpa using hy) (by simpa using hu))⟩
theorem avs_append {G : Nat → Prop} : ∀ {as : List AV} {us : List Value} {l : List V1} {vs : List Value}, AVsR w μ G as us → V1sR w μ G l vs → AVsR w μ G (as ++ l.map AV.v) (us ++ vs)
  | [], [], [], [], _, _ => trivial
  | [], [], x :: l, v :: vs, _, h => ⟨h.1, avs_append (as := []) (us := []) trivial h.2⟩
  | x :: as, u :: us, l, vs, h, k => ⟨h.1, avs_append h.2 k⟩
  | [], _ :: _, _, _, h, _ => h.elim
  | _ :: _, [], _, _, h, _ => h.elim
  | [], [], [], _ :: _, _, h => h.elim
  | [], [], _ :: _, [], _, h => h.elim
theorem snd_call0 (c : Ctx P R w0 N ops μ r a w ch) {sig : List (Nat × Summary)} (hsig : SigOK P sig) {f : FuncId} {ts : List TypeId} {as : List AV} {us : List Value} (hargs : AVsR w μ (Good R μ) as us) {z : OR}
    (hexec0 : ∀ fn, P.funcs[f]? = some fn → ¬ fn.name = "runtime.NumGoroutine" → ¬ fn.body = none → (execOp a.eval o).run P w = .ok (.enter f us.toArray) w)
    (hz : evCall sig r o.dst f ts as = some z) (hcs : z.cs.all id = true) (hfree : ∀ k, z.nb = some k → ∀ d, o.dst = some d → look r.b d = none) : Snd P R w0 r o z μ a w := by
  unfold evCall at hz
  split at hz
  · rename_i sm as' rb hsm hconv
    have hok := hsig f sm hsm
    obtain ⟨fn, hfn, hname, hbody⟩ := hok.ent
    have hexec : (execOp a.eval o).run P w = .ok (.enter f us.toArray) w := hexec0 fn hfn (by simpa using hname) (by intro e; rw [e] at hbody; cases hbody)
    obtain ⟨q1, q2⟩ := convAs_r c.rel.mem hconv hargs
    have hsize := c.rel.mem.below.size
    have hgood : ∀ B, w.heap.size ≤ B → Good R μ B := fun B hB => ⟨fun hr => by have := c.rel.mem.res B hr; omega, fun n hn => by have := (c.rel.mem.blk n B hn).2; omega⟩
    split at hz
    · rename_i cs v hs
      have hz' := Option.some.inj hz
      subst hz'
      have hres := hok.res w (fun _ => True) as' _ cs _ q1 hs hcs
      intro K Q hK
      refine wp_entered hexec (hres.mono fun e w' ⟨u, he, hbel, hav⟩ => ⟨u, he, hK u μ w' ⟨fun _ _ => ?_, ?_, fun y zz hy => hy.ext hbel⟩⟩)
      · exact hav.mono (fun a v h1 h2 => ⟨h2, hgood _ h1⟩) (fun b hbm => absurd hbm (dg_noref hav b))
      · unfold after
        cases o.dst <;> exact c.rel.mem.ext hbel
    · rename_i cs v hs
      cases hn : (isNil rb || noSl v) with
      | false => rw [hn] at hz; cases hz
      | true =>
        rw [hn] at hz
        have hz' := Option.some.inj hz
        subst hz'
        intro K Q hK
        have key : ∀ e w', (∃ u, e = Ending.returned u ∧ Below w.heap.size w w' ∧ AVR w' μ (Good R μ) v u) → ∃ u, e = .returned u ∧ K (a.put o.dst u) w' := by
          rintro e w' ⟨u, he, hbel, hav⟩
          refine ⟨u, he, hK u μ w' ⟨fun _ _ => hav, ?_, fun y zz hy => hy.ext hbel⟩⟩
          unfold after
          cases o.dst <;> exact c.rel.mem.ext hbel
        cases hrb : isNil rb with
        | true =>
          have hrbe : rb = [] := by cases rb with | nil => rfl | cons _ _ => cases hrb
          have hres := hok.res w (Good R μ) as' _ cs _ (q2 hrbe) hs hcs
          refine wp_entered hexec (hres.mono fun e w' ⟨u, he, hbel, hav⟩ => key e w' ⟨u, he, hbel, hav.mono (fun a v h1 h2 => ⟨h2, ?_⟩) (fun b hbm => absurd hbm (dg_noref hav b))⟩)
          rcases h1 with h1 | h1
          · exact h1
          · exact hgood _ h1
        | false =>
          rw [hrb] at hn
          simp only [Bool.false_or] at hn
          have hres := hok.res w (fun _ => True) as' _ cs _ q1 hs hcs
          refine wp_entered hexec (hres.mono fun e w' ⟨u, he, hbel, hav⟩ => key e w' ⟨u, he, hbel, ?_⟩)
          exact noSl_avr hn hav
    · rename_i cs k xs hs
      split at hz
      · rename_i d hd
        have hz' := Option.some.inj hz
        subst hz'
        have hfd := hfree _ rfl d hd
        have hres := hok.res w (fun _ => True) as' _ cs _ q1 hs hcs
        intro K Q hK
        refine wp_entered hexec (hres.mono fun e w' ⟨u, vals, he, hbel, hown, hcsr⟩ => ⟨u, he, hK u (fun n => if n = d then Gh.row u else μ n) w' (post_new (g := Gh.row u) c hfd hd ⟨rfl, rfl, rfl⟩ hbel (fun B hB => (hown.lt B hB).1) (CR.own (by simp [Gh.main]) (row_slice hown)) ?_)⟩)
        refine ⟨u, vals, by simp, ownsRow_base hown (fun B hB => by have := (hown.lt B hB).1; omega), ?_⟩
        refine hcsr.mono (fun a v h1 h2 => ⟨h2, (hgood _ h1.1).1, fun n hn => ?_⟩) (fun b hbm => absurd hbm (csr_noref hcsr b))
        by_cases e : n = d
        · subst e; simp [Gh.own] at hn; exact h1.2 hn
        · simp [e] at hn; exact (hgood _ h1.1).2 n hn
      · cases hz
    · rename_i cs k xs hs
      split at hz
      · rename_i b as0 d hd
        split at hz
        · rename_i k' xs0 hl
          cases hkk : Nat.beq k.no k'.no with
          | false => rw [hkk] at hz; cases hz
          | true =>
            rw [hkk] at hz
            have hz' := Option.some.inj hz
            subst hz'
            have hke := no_inj hkk
            subst hke
            have hres := hok.res w (fun _ => True) as' _ cs _ q1 hs hcs
            cases hmap : us with
            | nil => rw [hmap] at hargs; exact hargs.elim
            | cons u0 us0 =>
              rw [hmap] at hargs
              obtain ⟨vals, g1, g2, g3, g4⟩ := row_shape c.rel.mem hl hargs.1
              have hres' := hres w0.heap.size u0 us0 _ vals hmap hsize g1
              intro K Q hK
              refine wp_entered hexec (hres'.mono fun e w' ⟨u, vals', he, hgr, hown, hblk, hcsr⟩ => ?_)
              have hst : Step μ (fun n => if n = b then Gh.row u else μ n) w w' (· = b) := by
                refine Step.one hgr (fun B hB => by rw [g3]; exact hB) (fun n hn => by simp [hn]) (fun B hB => ?_)
                rw [g3]
                have hB : u.ownBlock = some B := by simpa [Gh.own] using hB
                rcases hblk with h5 | h5
                · exact .inl (show u0.ownBlock = some B by rw [← h5]; exact hB)
                · exact .inr (h5 B hB)
              refine ⟨u, he, hK u (fun n => if n = b then Gh.row u else μ n) w' ⟨fun _ _ => CR.own (by simp [Gh.main]) (row_slice hown), ?_, fun y zz hy => ?_⟩⟩
              · have hfin : Mem R w0 (fun n => if n = b then Gh.row u else μ n) (putBs (killRS b r).b [(b, .arr k xs)]) w' :=
                  hst.mem2 c.rel.mem (blk := .arr k xs) (by simp [putBs, look_put]) ⟨u, vals', by simp, hown, hcsr.mono (fun a v h1 h2 => h1.elim) (fun b hbm => absurd hbm (csr_noref hcsr b))⟩ (fun n hn => by simp [putBs, look_put, hn, killRS, look_mapV, look_del])
                unfold after
                cases o.dst <;> exact hfin
              · exact hst.avr (killAV_r b hy) (fun n hr hn => absurd hn (killAV_ref b y n hr).1)
        · cases hz
      · rename_i as0 d hd
        have hz' := Option.some.inj hz
        subst hz'
        have hfd := hfree _ rfl d hd
        have hres := hok.res w (fun _ => True) as' _ cs _ q1 hs hcs
        cases hmap : us with
        | nil => rw [hmap] at hargs; exact hargs.elim
        | cons u0 us0 =>
          rw [hmap] at hargs
          have e0 := val_eq hargs.1
          have hres' := hres w.heap.size u0 us0 0 [] hmap (Nat.le_refl _) (by rw [e0]; exact World.ownsRow_nil _ _ _ _)
          intro K Q hK
          refine wp_entered hexec (hres'.mono fun e w' ⟨u, vals', he, hgr, hown, hblk, hcsr⟩ => ?_)
          rw [e0] at hgr
          have hbel : Below w.heap.size w w' := ⟨hgr.os, hgr.tape, hgr.output, hgr.size, fun q hq => hgr.block q hq (by simp [Value.ownBlock])⟩
          have hg : ∀ B, (Gh.row u).own B → w.heap.size ≤ B := fun B hB => (hown.lt B hB).1
          exact ⟨u, he, hK u (fun n => if n = d then Gh.row u else μ n) w' (post_new (blk := .arr k xs) c hfd hd ⟨rfl, rfl, rfl⟩ hbel hg (CR.own (by simp [Gh.main]) (row_slice hown))
            ⟨u, vals', by simp, ownsRow_base hown (fun B hB => by have := hg B hB; omega), hcsr.mono (fun a v h1 h2 => h1.elim) (fun b hbm => absurd hbm (csr_noref hcsr b))⟩)⟩
      · cases hz
    · cases hz
  · cases hz
theorem snd_call (c : Ctx P R w0 N ops μ r a w ch) {sig : List (Nat × Summary)} (hsig : SigOK P sig) {cl : Call} (ho : o.op = .call cl) {f : FuncId} (hb : cl.callee = .value (.func f)) {as : List AV} (h : rhos r ch cl.args.toList = some as) {z : OR}
    (hz : evCall sig r o.dst f cl.argTypes.toList as = some z) (hcs : z.cs.all id = true) (hfree : ∀ k, z.nb = some k → ∀ d, o.dst = some d → look r.b d = none) : Snd P R w0 r o z μ a w := by
  refine snd_call0 c hsig (avs_of c h) (fun fn hfn hname hbody => ?_) hz hcs hfree
  have hmap : cl.args.map a.eval = (cl.args.toList.map a.eval).toArray := by apply Array.ext'; simp
  rw [← hmap]
  simp [execOp, ho, resolve, hb, Act.eval, Deferred.ofValue, invoke, callFunc, hfn, hname, hbody]
theorem snd_callv (c : Ctx P R w0 N ops μ r a w ch) {sig : List (Nat × Summary)} (hsig : SigOK P sig) {cl : Call} (ho : o.op = .call cl) {t : Nat} (hb : cl.callee = .value (.tmp t)) {f : FuncId} {l : List V1} (hf : rho r ch (.tmp t) = some (.fn f l)) {as : List AV} (h : rhos r ch cl.args.toList = some as) {ts : List TypeId} {z : OR}
    (hz : evCall sig r o.dst f ts (as ++ l.map AV.v) = some z) (hcs : z.cs.all id = true) (hfree : ∀ k, z.nb = some k → ∀ d, o.dst = some d → look r.b d = none) : Snd P R w0 r o z μ a w := by
  obtain ⟨us, hu, hl⟩ := rho_r c hf
  refine snd_call0 c hsig (avs_append (avs_of c h) hl) (fun fn hfn hname hbody => ?_) hz hcs hfree
  have hmap : (cl.args.toList.map a.eval ++ us.toList).toArray = cl.args.map a.eval ++ us := by apply Array.ext'; simp
  rw [hmap]
  simp [execOp, ho, resolve, hb, hu, Deferred.ofValue, invoke, callFunc, hfn, hname, hbody]
end
end Go.Proofs.Ytoknhjmcoleejaa
