/- An operation hangs on what it reads alone. No condition. -/
import Derived.Test.YtoknhjmcoleejaaEN
set_option linter.unusedVariables false
set_option linter.unusedSimpArgs false
namespace Go.Proofs.Ytoknhjmcoleejaa
section
variable {N : Nat} {ops : Array Oper} {r r2 : RS} {ch : List (Nat × Bool)} {o : Oper} {sig : List (Nat × Summary)}

theorem rho_congr {x : Operand} (h : ∀ t, x = .tmp t → look r2.s t = look r.s t) : rho r2 ch x = rho r ch x := by
  unfold rho
  cases x with
  | tmp t => simp only [opd, h t rfl]
  | _ => rfl
theorem opd_congr {x : Operand} (h : ∀ t, x = .tmp t → look r2.s t = look r.s t) : opd r2 x = opd r x := by
  cases x with
  | tmp t => simp only [opd, h t rfl]
  | _ => rfl
theorem rhos_congr : ∀ {l : List Operand}, (∀ t, Operand.tmp t ∈ l → look r2.s t = look r.s t) → rhos r2 ch l = rhos r ch l
  | [], _ => rfl
  | x :: l, h => by
    simp only [rhos]
    rw [rho_congr (fun t e => h t (by simp [e])), rhos_congr (fun t ht => h t (by simp [ht]))]
theorem partVs_congr : ∀ {l : List (Nat × Operand)}, (∀ t, Operand.tmp t ∈ l.map (·.2) → look r2.s t = look r.s t) → partVs r2 ch l = partVs r ch l
  | [], _ => rfl
  | (i, x) :: l, h => by
    simp only [partVs]
    rw [rho_congr (fun t e => h t (by simp [e])), partVs_congr (fun t ht => h t (by simp only [List.map_cons, List.mem_cons]; exact .inr ht))]
theorem mem_tmpsOf {l : List Operand} {t : Nat} (h : Operand.tmp t ∈ l) : t ∈ tmpsOf l := by
  unfold tmpsOf
  exact List.mem_filterMap.2 ⟨_, h, rfl⟩

theorem readAt_congr {c : C} {cs : List Bool} {l : List C} {rb : List Nat} (h : readAt r c = some (cs, l, rb)) (hb : ∀ b, b ∈ rb → look r2.b b = look r.b b) : readAt r2 c = some (cs, l, rb) := by
  cases c with
  | ptr b off =>
    simp only [readAt] at h ⊢
    split at h
    · rename_i cs0 t hl
      have e : rb = [b] := by simp only [Option.some.injEq, Prod.mk.injEq] at h; exact h.2.2.symm
      rw [hb b (by simp [e]), hl]
      exact h
    · cases h
  | elt k b i off =>
    simp only [readAt] at h ⊢
    split at h
    · rename_i k' xs hl
      cases hk : Nat.beq k.no k'.no with
      | false => rw [hk] at h; cases h
      | true =>
        rw [hk] at h
        have e : rb = [b] := by simp only [cond_true, Option.some.injEq, Prod.mk.injEq] at h; exact h.2.2.symm
        rw [hb b (by simp [e]), hl]
        simp only [hk]
        exact h
    · rename_i k' xs hole hl
      cases hk : Nat.beq k.no k'.no with
      | false => rw [hk] at h; cases h
      | true =>
        rw [hk] at h
        have e : rb = [b] := by simp only [cond_true, Option.some.injEq, Prod.mk.injEq] at h; exact h.2.2.symm
        rw [hb b (by simp [e]), hl]
        simp only [hk]
        exact h
    · cases h
  | rel k x off => exact h
  | _ => cases h
theorem evTake_congr {d : Option Nat} {t : TypeId} {p : AV} {z : OR} (h : evTake r d t p = some z) (hb : ∀ b, b ∈ z.rb → look r2.b b = look r.b b) : evTake r2 d t p = some z := by
  unfold evTake at h ⊢
  split at h
  · rename_i k b i off k' d hk
    split at h
    · rename_i k2 xs hl
      cases hc : Nat.beq k.no k2.no with
      | false => rw [hc] at h; cases h
      | true =>
        rw [hc, cond_true] at h
        split at h
        · rename_i k3 ys hc3
          cases hc4 : Nat.beq k'.no k3.no with
          | false => rw [hc4] at h; cases h
          | true =>
            rw [hc4] at h
            have e : z.rb = [b] := by obtain rfl := Option.some.inj h; rfl
            (try dsimp only)
            (try simp only [hk])
            rw [hb b (by simp [e]), hl]
            simp only [hc, cond_true, hc3, hc4]
            exact h
        · cases h
    · cases h
  · cases h
theorem evTake_same {d : Option Nat} {t : TypeId} {p : AV} (hb : ∀ k b i off, p = .v (.c (.elt k b i off)) → look r2.b b = look r.b b) : evTake r2 d t p = evTake r d t p := by
  unfold evTake
  split
  · rename_i k b i off k' d hk
    rw [hb k b i off rfl]
  · rfl
theorem evFill_congr {t : TypeId} {p x : AV} {z : OR} (h : evFill r t p x = some z) (hb : ∀ b, b ∈ z.rb → look r2.b b = look r.b b) : evFill r2 t p x = some z := by
  unfold evFill at h ⊢
  split at h
  · rename_i k b i off q
    split at h
    · rename_i k2 xs i' off' k3 ys hl hlq
      split at h
      · rename_i k4 ys0 k5 hc4 hk5
        cases hc : (Nat.beq k.no k2.no && Nat.beq off off' && Nat.beq k3.no k4.no && Nat.beq k3.no k5.no) with
        | false => rw [hc] at h; cases h
        | true =>
          rw [hc, cond_true] at h
          split at h
          · rename_i y hy
            have e : z.rb = [b, q] := by obtain rfl := Option.some.inj h; rfl
            (try dsimp only)
            rw [hb b (by simp [e]), hb q (by simp [e]), hl, hlq]
            simp only [hc4, hk5, hc, cond_true, hy]
            exact h
          · cases h
      · cases h
    · cases h
  · cases h
theorem evLoad_congr {t : TypeId} {p : AV} {z : OR} (h : evLoad r t p = some z) (hb : ∀ b, b ∈ z.rb → look r2.b b = look r.b b) : evLoad r2 t p = some z := by
  unfold evLoad at h ⊢
  split at h
  · rename_i c
    split at h
    · rename_i cs l rb n hr hn
      split at h
      · rename_i v hm
        have e : z.rb = rb := by obtain rfl := Option.some.inj h; rfl
        rw [readAt_congr hr (fun b hbm => hb b (by rw [e]; exact hbm))]
        simp only [hn, hm]
        exact h
      · cases h
    · cases h
  · cases h
theorem evTake_after {d : Option Nat} {t : TypeId} {p : AV} {x : OR} (h : evLoad r t p = some x) (hb : ∀ b, b ∈ x.rb → look r2.b b = look r.b b) : evTake r2 d t p = evTake r d t p := by
  refine evTake_same (fun k b i off e => ?_)
  subst e
  unfold evLoad at h
  simp only at h
  split at h
  · rename_i cs l rb n hr hn
    split at h
    · have e1 : x.rb = rb := by obtain rfl := Option.some.inj h; rfl
      have e2 : rb = [b] := by
        simp only [readAt] at hr
        split at hr
        · rename_i k' xs hl
          cases hk : Nat.beq k.no k'.no with
          | false => rw [hk] at hr; cases hr
          | true => rw [hk] at hr; simp only [cond_true, Option.some.injEq, Prod.mk.injEq] at hr; exact hr.2.2.symm
        · rename_i k' xs hole hl
          cases hk : Nat.beq k.no k'.no with
          | false => rw [hk] at hr; cases hr
          | true => rw [hk] at hr; simp only [cond_true, Option.some.injEq, Prod.mk.injEq] at hr; exact hr.2.2.symm
        · cases hr
      exact hb b (by rw [e1, e2]; simp)
    · cases h
  · cases h
theorem evStore_congr {t : TypeId} {p x : AV} {z : OR} (h : evStore r t p x = some z) (hb : ∀ b, b ∈ z.rb → look r2.b b = look r.b b) : evStore r2 t p x = some z := by
  unfold evStore at h ⊢
  split at h
  · rename_i b off v
    split at h
    · rename_i cs u hl
      cases hc : (fits t v && Nat.ble (off + v.cs.length) cs.length) with
      | false => rw [hc] at h; cases h
      | true =>
        rw [hc] at h
        have e : z.rb = [b] := by obtain rfl := Option.some.inj h; rfl
        (try dsimp only)
        rw [hb b (by simp [e]), hl]
        simp only [hc]
        exact h
    · cases h
  · rename_i k b i off v
    split at h
    · rename_i k' xs hl
      cases hc : (fits t v && Nat.beq k.no k'.no && Nat.ble (off + v.cs.length) (width k')) with
      | false => rw [hc] at h; cases h
      | true =>
        rw [hc] at h
        simp only [cond_true] at h
        split at h
        · rename_i y hy
          have e : z.rb = [b] := by obtain rfl := Option.some.inj h; rfl
          (try dsimp only)
          rw [hb b (by simp [e]), hl]
          simp only [hc, hy]
          exact h
        · cases h
    · cases h
  · cases h
theorem evFill_none {t : TypeId} {p x : AV} {z : OR} (h : evStore r t p x = some z) (hb : ∀ b, b ∈ z.rb → look r2.b b = look r.b b) : evFill r2 t p x = none := by
  unfold evStore at h
  unfold evFill
  split at h
  · rfl
  · rename_i k b i off v
    split at h
    · rename_i k' xs hl
      cases hc : (fits t v && Nat.beq k.no k'.no && Nat.ble (off + v.cs.length) (width k')) with
      | false => rw [hc] at h; cases h
      | true =>
        rw [hc] at h
        simp only [cond_true] at h
        split at h
        · rename_i y hy
          have e : z.rb = [b] := by obtain rfl := Option.some.inj h; rfl
          have hl2 : look r2.b b = some (.arr k' xs) := by rw [hb b (by simp [e]), hl]
          cases v with
          | c x =>
            cases x with
            | own q => simp only [hl2]
            | _ => rfl
          | agg _ => rfl
        · cases h
    · cases h
  · cases h
theorem evIndex_congr {t : TypeId} {x i : AV} {z : OR} (h : evIndex r t x i = some z) (hb : ∀ b, b ∈ z.rb → look r2.b b = look r.b b) : evIndex r2 t x i = some z := by
  unfold evIndex at h ⊢
  split at h
  · exact h
  · rename_i b ik i
    split at h
    · rename_i k xs k' hl hk
      cases hc : Nat.beq k.no k'.no with
      | false => rw [hc] at h; cases h
      | true =>
        rw [hc] at h
        have e : z.rb = [b] := by obtain rfl := Option.some.inj h; rfl
        (try dsimp only)
        rw [hb b (by simp [e]), hl]
        simp only [hk, hc]
        exact h
    · rename_i k xs hole k' hl hk
      cases hc : Nat.beq k.no k'.no with
      | false => rw [hc] at h; cases h
      | true =>
        rw [hc] at h
        have e : z.rb = [b] := by obtain rfl := Option.some.inj h; rfl
        (try dsimp only)
        rw [hb b (by simp [e]), hl]
        simp only [hk, hc]
        exact h
    · cases h
  · cases h
theorem lenOf_congr {x : AV} {n : Nat} {rb : List Nat} (h : lenOf r x = some (n, rb)) (hb : ∀ b, b ∈ rb → look r2.b b = look r.b b) : lenOf r2 x = some (n, rb) := by
  unfold lenOf at h ⊢
  split at h
  · exact h
  · rename_i b
    split at h
    · rename_i k xs hl
      have e : rb = [b] := by simp only [Option.some.injEq, Prod.mk.injEq] at h; exact h.2.symm
      (try dsimp only)
      rw [hb b (by simp [e]), hl]
      exact h
    · rename_i k xs hole hl
      have e : rb = [b] := by simp only [Option.some.injEq, Prod.mk.injEq] at h; exact h.2.symm
      (try dsimp only)
      rw [hb b (by simp [e]), hl]
      exact h
    · cases h
  · exact h
  · cases h
theorem elemsOf_congr {k : K} {x : AV} {ys : List (ty k)} {rb : List Nat} (h : elemsOf r k x = some (ys, rb)) (hb : ∀ b, b ∈ rb → look r2.b b = look r.b b) : elemsOf r2 k x = some (ys, rb) := by
  unfold elemsOf at h ⊢
  split at h
  · exact h
  · rename_i b
    split at h
    · rename_i k' xs hl
      split at h
      · rename_i hk
        have e : rb = [b] := by simp only [Option.some.injEq, Prod.mk.injEq] at h; exact h.2.symm
        (try dsimp only)
        rw [hb b (by simp [e]), hl]
        (try dsimp only)
        rw [dif_pos hk]
        exact h
      · cases h
    · cases h
  · exact h
  · cases h
theorem evAppend_congr {d : Option Nat} {t : TypeId} {s x : AV} {z : OR} (h : evAppend r d t s x = some z) (hb : ∀ b, b ∈ z.rb → look r2.b b = look r.b b) : evAppend r2 d t s x = some z := by
  unfold evAppend at h ⊢
  split at h
  · rename_i k b hk
    split at h
    · rename_i k' xs hl
      split at h
      · rename_i ys rb hel hkk
        have e : z.rb = b :: rb := by obtain rfl := Option.some.inj h; rfl
        (try dsimp only)
        rw [hb b (by simp [e]), hl]
        (try dsimp only)
        rw [elemsOf_congr hel (fun b' hb' => hb b' (by rw [e]; simp [hb'])), hkk]
        exact h
      · cases h
    · cases h
  · rename_i k hk
    split at h
    · rename_i ys rb d hel
      have e : z.rb = rb := by obtain rfl := Option.some.inj h; rfl
      (try dsimp only)
      rw [elemsOf_congr hel (fun b' hb' => hb b' (by rw [e]; exact hb'))]
      exact h
    · cases h
  · cases h
theorem absCs_congr : ∀ {l l' : List C} {ns : List Nat}, absCs r l = some (l', ns) → (∀ q, q ∈ ns → look r2.b q = look r.b q) → absCs r2 l = some (l', ns)
  | [], l', ns, h, hb => h
  | c :: l, l', ns, h, hb => by
    simp only [absCs] at h ⊢
    split at h
    · rename_i c1 n1 l1 m1 h1 h2
      have e : ns = n1 ++ m1 := by simp only [Option.some.injEq, Prod.mk.injEq] at h; exact h.2.symm
      have h3 : absC r2 c = some (c1, n1) := by
        unfold absC at h1 ⊢
        split at h1
        · rename_i q
          split at h1
          · rename_i k ys hl
            have e2 : n1 = [q] := by simp only [Option.some.injEq, Prod.mk.injEq] at h1; exact h1.2.symm
            (try dsimp only)
            rw [hb q (by simp [e, e2]), hl]
            exact h1
          · cases h1
        · exact h1
        · cases h1
      rw [h3, absCs_congr h2 (fun q hq => hb q (by rw [e]; simp [hq]))]
      exact h
    · cases h
theorem absEls_congr {k : K} : ∀ {css : List (List C)} {ys : List (ty k)} {ns : List Nat}, absEls r k css = some (ys, ns) → (∀ q, q ∈ ns → look r2.b q = look r.b q) → absEls r2 k css = some (ys, ns)
  | [], ys, ns, h, hb => h
  | cs :: l, ys, ns, h, hb => by
    simp only [absEls] at h ⊢
    split at h
    · rename_i cs' n1 xs m1 h1 h2
      split at h
      · rename_i x hof
        have e : ns = n1 ++ m1 := by simp only [Option.some.injEq, Prod.mk.injEq] at h; exact h.2.symm
        rw [absCs_congr h1 (fun q hq => hb q (by rw [e]; simp [hq])), absEls_congr h2 (fun q hq => hb q (by rw [e]; simp [hq]))]
        simp only [hof]
        exact h
      · cases h
    · cases h
theorem evAppendD_congr {d : Option Nat} {t : TypeId} {s x : AV} {z : OR} (h : evAppendD r d t s x = some z) (hb : ∀ b, b ∈ z.rb → look r2.b b = look r.b b) : evAppendD r2 d t s x = some z := by
  unfold evAppendD at h ⊢
  split at h
  · rename_i k q hk
    split at h
    · rename_i k1 css hlq
      cases hc : (Nat.beq k.no k1.no && deepK k1) with
      | false => rw [hc] at h; cases h
      | true =>
        rw [hc, cond_true] at h
        split at h
        · rename_i b
          split at h
          · rename_i k2 xs hl
            cases hc2 : Nat.beq k1.no k2.no with
            | false => rw [hc2] at h; cases h
            | true =>
              rw [hc2, cond_true] at h
              split at h
              · rename_i ys ns habs
                cases hn : nodupB ns with
                | false => rw [hn] at h; cases h
                | true =>
                  rw [hn] at h
                  have e : z.rb = b :: q :: ns := by obtain rfl := Option.some.inj h; rfl
                  (try dsimp only)
                  rw [hb q (by simp [e]), hlq]
                  simp only [hc, cond_true]
                  rw [hb b (by simp [e]), hl]
                  simp only [hc2, cond_true]
                  rw [absEls_congr habs (fun q hq => hb q (by rw [e]; simp [hq]))]
                  simp only [hn]
                  exact h
              · cases h
          · cases h
        · split at h
          · rename_i ys ns d habs
            cases hn : nodupB ns with
            | false => rw [hn] at h; cases h
            | true =>
              rw [hn] at h
              have e : z.rb = q :: ns := by obtain rfl := Option.some.inj h; rfl
              (try dsimp only)
              rw [hb q (by simp [e]), hlq]
              simp only [hc, cond_true]
              rw [absEls_congr habs (fun q hq => hb q (by rw [e]; simp [hq]))]
              simp only [hn]
              exact h
          · cases h
        · cases h
    · cases h
  · cases h
theorem evAppendD_none {d d' : Option Nat} {t : TypeId} {s x : AV} {z : OR} (h : evAppend r d t s x = some z) (hb : ∀ b, b ∈ z.rb → look r2.b b = look r.b b) : evAppendD r2 d' t s x = none := by
  have key : ∀ {k : K} {ys : List (ty k)} {rb : List Nat}, elemsOf r k x = some (ys, rb) → (∀ b, b ∈ rb → look r2.b b = look r.b b) → evAppendD r2 d' t s x = none := by
    intro k ys rb he hb'
    unfold elemsOf at he
    unfold evAppendD
    split at he
    · split
      · rename_i heq; cases heq
      · rfl
    · rename_i q
      split at he
      · rename_i k' xs hl
        split at he
        · have e : rb = [q] := by simp only [Option.some.injEq, Prod.mk.injEq] at he; exact he.2.symm
          have hl2 : look r2.b q = some (.arr k' xs) := by rw [hb' q (by simp [e]), hl]
          split
          · rename_i q' _ heq
            cases heq
            rw [hl2]
          · rfl
        · cases he
      · cases he
    · split
      · rename_i heq; cases heq
      · rfl
    · cases he
  unfold evAppend at h
  split at h
  · rename_i k b hk
    split at h
    · rename_i k' xs hl
      split at h
      · rename_i ys rb hel hkk
        have e : z.rb = b :: rb := by obtain rfl := Option.some.inj h; rfl
        exact key hel (fun b' hb' => hb b' (by rw [e]; simp [hb']))
      · cases h
    · cases h
  · rename_i k hk
    split at h
    · rename_i ys rb d hel
      have e : z.rb = rb := by obtain rfl := Option.some.inj h; rfl
      exact key hel (fun b' hb' => hb b' (by rw [e]; exact hb'))
    · cases h
  · cases h
theorem evPutM_congr {t : TypeId} {m k x : AV} {z : OR} (h : evPutM r t m k x = some z) (hb : ∀ b, b ∈ z.rb → look r2.b b = look r.b b) : evPutM r2 t m k x = some z := by
  unfold evPutM at h ⊢
  split at h
  · rename_i b cs
    split at h
    · rename_i u kv hu hl ht
      split at h
      · have e : z.rb = [b] := by obtain rfl := Option.some.inj h; rfl
        (try dsimp only)
        rw [hb b (by simp [e]), hu, hl, ht]
        exact h
      · cases h
    · rename_i u kv hu hl ht
      split at h
      · have e : z.rb = [b] := by obtain rfl := Option.some.inj h; rfl
        (try dsimp only)
        rw [hb b (by simp [e]), hu, hl, ht]
        exact h
      · cases h
    · cases h
  · cases h
theorem evLookM_congr {t : TypeId} {m k : AV} {c : Bool} {z : OR} (h : evLookM r t m k c = some z) (hb : ∀ b, b ∈ z.rb → look r2.b b = look r.b b) : evLookM r2 t m k c = some z := by
  unfold evLookM at h ⊢
  split at h
  · rename_i b cs
    split at h
    · rename_i u kv hu hl ht
      have e : z.rb = [b] := by obtain rfl := Option.some.inj h; rfl
      (try dsimp only)
      rw [hb b (by simp [e]), hu, hl, ht]
      exact h
    · rename_i u kv hu hl ht
      have e : z.rb = [b] := by obtain rfl := Option.some.inj h; rfl
      (try dsimp only)
      rw [hb b (by simp [e]), hu, hl, ht]
      exact h
    · cases h
  · cases h
theorem convC_congr {t : TypeId} {c c' : C} {b : List Nat} (h : convC r t c = some (c', b)) (hb : ∀ n, n ∈ b → look r2.b n = look r.b n) : convC r2 t c = some (c', b) := by
  unfold convC at h ⊢
  split at h
  · rename_i q
    split at h
    · rename_i k xs hl
      have e : b = [q] := by simp only [Option.some.injEq, Prod.mk.injEq] at h; exact h.2.symm
      (try dsimp only)
      rw [hb q (by simp [e]), hl]
      exact h
    · rename_i k xs hl
      have e : b = [q] := by simp only [Option.some.injEq, Prod.mk.injEq] at h; exact h.2.symm
      (try dsimp only)
      rw [hb q (by simp [e]), hl]
      exact h
    · cases h
  · exact h
  · exact h
  · exact h
  · exact h
  · cases h
theorem capC_congr {c c' : C} {b : List Nat} (h : capC r c = some (c', b)) (hb : ∀ n, n ∈ b → look r2.b n = look r.b n) : capC r2 c = some (c', b) := by
  unfold capC at h ⊢
  split at h
  · rename_i q
    split at h
    · rename_i cs t hl
      split at h
      · rename_i k hk
        split at h
        · rename_i x hx
          have e : b = [q] := by simp only [Option.some.injEq, Prod.mk.injEq] at h; exact h.2.symm
          (try dsimp only)
          rw [hb q (by simp [e]), hl]
          simp only [hk, hx]
          exact h
        · cases h
      · cases h
    · cases h
  · exact h
  · exact h
  · cases h
theorem capVs_congr : ∀ {l l' : List V1} {b : List Nat}, capVs r l = some (l', b) → (∀ q, q ∈ b → look r2.b q = look r.b q) → capVs r2 l = some (l', b)
  | [], l', b, h, hb => h
  | .agg cs :: l, l', b, h, hb => by cases h
  | .c c :: l, l', b, h, hb => by
    simp only [capVs] at h ⊢
    split at h
    · rename_i c' b1 l1 bs h1 h2
      have e : b = b1 ++ bs := by simp only [Option.some.injEq, Prod.mk.injEq] at h; exact h.2.symm
      rw [capC_congr h1 (fun q hq => hb q (by rw [e]; simp [hq])), capVs_congr h2 (fun q hq => hb q (by rw [e]; simp [hq]))]
      exact h
    · cases h
theorem convCs_congr {fs : List (Nat × TypeId)} : ∀ {n : Nat} {l l' : List C} {b : List Nat}, convCs r fs n l = some (l', b) → (∀ q, q ∈ b → look r2.b q = look r.b q) → convCs r2 fs n l = some (l', b)
  | n, [], l', b, h, hb => h
  | n, c :: l, l', b, h, hb => by
    simp only [convCs] at h ⊢
    split at h
    · rename_i c' b1 l1 bs h1 h2
      have e : b = b1 ++ bs := by simp only [Option.some.injEq, Prod.mk.injEq] at h; exact h.2.symm
      rw [convC_congr h1 (fun q hq => hb q (by rw [e]; simp [hq])), convCs_congr h2 (fun q hq => hb q (by rw [e]; simp [hq]))]
      exact h
    · cases h
theorem convA_congr {t : TypeId} {x x' : AV} {b : List Nat} (h : convA r t x = some (x', b)) (hb : ∀ q, q ∈ b → look r2.b q = look r.b q) : convA r2 t x = some (x', b) := by
  unfold convA at h ⊢
  split at h
  · split at h
    · rename_i c' b' hc
      have e : b = b' := by simp only [Option.some.injEq, Prod.mk.injEq] at h; exact h.2.symm
      (try dsimp only)
      rw [convC_congr hc (fun q hq => hb q (by rw [e]; exact hq))]
      exact h
    · cases h
  · split at h
    · rename_i fs n0 z0 hT
      split at h
      · rename_i cs' b' hc
        have e : b = b' := by simp only [Option.some.injEq, Prod.mk.injEq] at h; exact h.2.symm
        (try dsimp only)
        rw [convCs_congr hc (fun q hq => hb q (by rw [e]; exact hq))]
        exact h
      · cases h
    · cases h
  · rename_i f l
    split at h
    · rename_i l' b' hl
      have e : b = b' := by simp only [Option.some.injEq, Prod.mk.injEq] at h; exact h.2.symm
      (try dsimp only)
      rw [capVs_congr hl (fun q hq => hb q (by rw [e]; exact hq))]
      exact h
    · cases h
  · cases h
theorem convAs_congr : ∀ {ts : List TypeId} {l l' : List AV} {b : List Nat}, convAs r ts l = some (l', b) → (∀ q, q ∈ b → look r2.b q = look r.b q) → convAs r2 ts l = some (l', b)
  | [], [], l', b, h, hb => h
  | t :: ts, c :: l, l', b, h, hb => by
    simp only [convAs] at h ⊢
    split at h
    · rename_i c' b1 l1 bs h1 h2
      have e : b = b1 ++ bs := by simp only [Option.some.injEq, Prod.mk.injEq] at h; exact h.2.symm
      rw [convA_congr h1 (fun q hq => hb q (by rw [e]; simp [hq])), convAs_congr h2 (fun q hq => hb q (by rw [e]; simp [hq]))]
      exact h
    · cases h
  | [], _ :: _, l', b, h, hb => by cases h
  | _ :: _, [], l', b, h, hb => by cases h
theorem convAs_own {ts : List TypeId} {b : Nat} {l : List AV} {l' : List AV} {rb : List Nat} (h : convAs r ts (.v (.c (.own b)) :: l) = some (l', rb)) : b ∈ rb := by
  cases ts with
  | nil => cases h
  | cons t ts =>
    simp only [convAs, convA, convC] at h
    split at h
    · rename_i c' b1 l1 bs h1 h2
      simp only [Option.some.injEq, Prod.mk.injEq] at h
      obtain ⟨_, rfl⟩ := h
      split at h1
      · rename_i c2 b2 h3
        split at h3
        · simp only [Option.some.injEq, Prod.mk.injEq] at h1 h3
          rw [← h1.2, ← h3.2]
          simp
        · simp only [Option.some.injEq, Prod.mk.injEq] at h1 h3
          rw [← h1.2, ← h3.2]
          simp
        · cases h3
      · cases h1
    · cases h
theorem evCall_congr {d : Option Nat} {f : FuncId} {ts : List TypeId} {args : List AV} {z : OR} (h : evCall sig r d f ts args = some z) (hb : ∀ b, b ∈ z.rb → look r2.b b = look r.b b) : evCall sig r2 d f ts args = some z := by
  unfold evCall at h ⊢
  split at h
  · rename_i sm as rb hsm hconv
    have key : ∀ {rb'}, rb' = rb → (∀ b, b ∈ rb' → look r2.b b = look r.b b) → convAs r2 ts args = some (as, rb) := fun e hb' => convAs_congr hconv (fun q hq => hb' q (by rw [e]; exact hq))
    split at h
    · rename_i cs v hs
      have e : z.rb = rb := by obtain rfl := Option.some.inj h; rfl
      rw [hsm, key e hb]
      simp only [hs]
      exact h
    · rename_i cs v hs
      cases hn : (isNil rb || noSl v) with
      | false => rw [hn] at h; cases h
      | true =>
        rw [hn] at h
        have e : z.rb = rb := by obtain rfl := Option.some.inj h; rfl
        rw [hsm, key e hb]
        simp only [hs, hn]
        exact h
    · rename_i cs k xs hs
      split at h
      · have e : z.rb = rb := by obtain rfl := Option.some.inj h; rfl
        rw [hsm, key e hb]
        simp only [hs]
        exact h
      · cases h
    · rename_i cs k xs hs
      split at h
      · rename_i b as0 d
        split at h
        · rename_i k' xs0 hl
          cases hkk : Nat.beq k.no k'.no with
          | false => rw [hkk] at h; cases h
          | true =>
            rw [hkk] at h
            have e : z.rb = rb := by obtain rfl := Option.some.inj h; rfl
            have hbm := convAs_own hconv
            rw [hsm, key e hb]
            simp only [hs]
            rw [hb b (by rw [e]; exact hbm), hl]
            simp only [hkk]
            exact h
        · cases h
      · have e : z.rb = rb := by obtain rfl := Option.some.inj h; rfl
        rw [hsm, key e hb]
        simp only [hs]
        exact h
      · cases h
    · cases h
  · cases h
theorem evOp_congr {x : OR} (h : evOp sig r ch o = some x) (hs : ∀ t, t ∈ tmpsOf (opOps o.op) → look r2.s t = look r.s t) (hb : ∀ b, b ∈ x.rb → look r2.b b = look r.b b) : evOp sig r2 ch o = some x := by
  have hq : ∀ {y : Operand}, y ∈ opOps o.op → rho r2 ch y = rho r ch y := fun hy => rho_congr fun t e => hs t (mem_tmpsOf (e ▸ hy))
  unfold evOp at h ⊢
  split at h <;> rename_i hop <;> (try rw [hop] at hq hs)
  · rw [hq (by simp [opOps])]; exact h
  · rw [hq (by simp [opOps])]; exact h
  · exact h
  · rw [hq (by simp [opOps])]; exact h
  · unfold evBuild at h ⊢
    rw [partVs_congr (fun t ht => hs t (mem_tmpsOf (by simpa [opOps] using ht)))]
    exact h
  · unfold evBuildSlice at h ⊢
    rw [partVs_congr (fun t ht => hs t (mem_tmpsOf (by simpa [opOps] using ht)))]
    exact h
  · rw [hq (by simp [opOps])]
    split at h
    · rename_i p hv
      split at h
      · rename_i z hz
        obtain rfl := Option.some.inj h
        rw [evTake_congr hz hb]
      · rename_i hz
        have hsame := evTake_after (d := o.dst) h hb
        rw [hsame, hz]
        exact evLoad_congr h hb
    · cases h
  · rw [hq (by simp [opOps]), hq (by simp [opOps])]
    split at h
    · rename_i v u hv hu hd
      (try rw [hv, hu, hd])
      (try dsimp only)
      split at h
      · rename_i z hz
        obtain rfl := Option.some.inj h
        rw [evFill_congr hz hb]
      · rw [evFill_none h hb]
        exact evStore_congr h hb
    · cases h
  · exact h
  · rw [hq (by simp [opOps]), hq (by simp [opOps]), hq (by simp [opOps])]
    split at h
    · rename_i m k e hm hk he hd
      (try rw [hm, hk, he, hd])
      exact evPutM_congr h hb
    · cases h
  · rw [hq (by simp [opOps]), hq (by simp [opOps]), hq (by simp [opOps])]
    split at h
    · rename_i m k e hm hk he hd
      (try rw [hm, hk, he, hd])
      exact evPutM_congr h hb
    · cases h
  · rw [hq (by simp [opOps]), hq (by simp [opOps])]
    split at h
    · rename_i m k hm hk
      (try rw [hm, hk])
      exact evLookM_congr h hb
    · cases h
  · rw [hq (by simp [opOps]), hq (by simp [opOps])]; exact h
  · rw [hq (by simp [opOps])]; exact h
  · rw [hq (by simp [opOps])]; exact h
  · rw [hq (by simp [opOps])]; exact h
  · rw [rhos_congr (fun t ht => hs t (mem_tmpsOf (by simpa [opOps] using ht)))]; exact h
  · rw [hq (by simp [opOps]), hq (by simp [opOps])]; exact h
  · rename_i t y lo hi _
    rw [hq (by simp [opOps])]
    split at h
    · rename_i v hh hv
      (try rw [hv])
      (try dsimp only)
      rw [hq (by simp [opOps])]
      exact h
    · cases h
  · rw [hq (by simp [opOps])]; exact h
  · rw [hq (by simp [opOps]), hq (by simp [opOps])]
    split at h
    · rename_i v u hv hu
      (try rw [hv, hu])
      exact evIndex_congr h hb
    · cases h
  · rw [hq (by simp [opOps])]; exact h
  · rename_i cl
    have hargs : ∀ y, y ∈ cl.args.toList → y ∈ opOps (.call cl) := by
      intro y hy
      simp only [opOps]
      split
      · exact List.mem_cons_of_mem _ hy
      · exact hy
    rw [rhos_congr (fun t ht => hs t (mem_tmpsOf (hargs _ ht)))]
    split at h
    · rename_i y hc hv
      (try rw [hc, hv])
      (try dsimp only)
      split at h
      · rename_i n rb t hl ht
        split at h
        · rename_i k hk
          have e : x.rb = rb := by obtain rfl := Option.some.inj h; rfl
          rw [lenOf_congr hl (fun b hbm => hb b (by rw [e]; exact hbm))]
          (try rw [ht])
          (try simp only [hk])
          exact h
        · cases h
      · cases h
    · rename_i s y hc hv
      (try rw [hc, hv])
      (try dsimp only)
      split at h
      · rename_i t t' ht
        (try rw [ht])
        (try dsimp only)
        cases htt : Nat.beq t t' with
        | false => rw [htt] at h; cases h
        | true =>
          rw [htt, cond_true] at h
          rw [cond_true]
          split at h
          · rename_i z hz
            obtain rfl := Option.some.inj h
            rw [evAppendD_congr hz hb]
          · rw [evAppendD_none h hb]
            exact evAppend_congr h hb
      · cases h
    · rename_i hc hv; (try rw [hc, hv]); exact h
    · rename_i hc hv; (try rw [hc, hv]); exact h
    · rename_i f as hc hv; (try rw [hc, hv]); exact evCall_congr h hb
    · rename_i t as hc hv
      have hr : rho r2 ch (.tmp t) = rho r ch (.tmp t) := rho_congr (fun t' e => hs t' (mem_tmpsOf (by injection e with e; subst e; simp [opOps, hc])))
      (try rw [hc, hv])
      (try dsimp only)
      rw [hr]
      split at h
      · rename_i f l hf; exact evCall_congr h hb
      · cases h
    · cases h
  · cases h
theorem evPick_congr {c x y : Operand} {z : OR} (h : evPick ops r ch c x y = some z) (hs : ∀ t, t ∈ tmpsOf [c, x, y] → look r2.s t = look r.s t) : evPick ops r2 ch c x y = some z := by
  unfold evPick at h ⊢
  rw [rho_congr (fun t e => hs t (mem_tmpsOf (by simp [e]))), opd_congr (x := x) (fun t e => hs t (mem_tmpsOf (by simp [e]))), opd_congr (x := y) (fun t e => hs t (mem_tmpsOf (by simp [e])))]
  exact h
theorem evAny_congr {x : OR} (h : evAny sig ops r ch o = some x) (hs : ∀ t, t ∈ tmpsOf (opOps o.op) → look r2.s t = look r.s t) (hb : ∀ b, b ∈ x.rb → look r2.b b = look r.b b) : evAny sig ops r2 ch o = some x := by
  unfold evAny at h ⊢
  split at h
  · rename_i c p q hop
    rw [hop] at hs
    (try rw [hop])
    exact evPick_congr h hs
  · exact evOp_congr h hs hb
theorem chain_congr : ∀ (n : Nat) (p : Nat × Bool), (∀ t, t ∈ chainSlots ops r n p → look r2.s t = look r.s t) → chainOf ops r2 n p = chainOf ops r n p
  | 0, p, h => rfl
  | n + 1, p, h => by
    simp only [chainOf]
    cases hd : dstOf ops p.1 with
    | none => rfl
    | some d =>
      have e := h d (by simp [chainSlots, hd])
      simp only [Option.bind_some]
      rw [e]
      cases hl : look r.s d with
      | none => rfl
      | some q =>
        obtain ⟨tg, v⟩ := q
        cases tg with
        | none => rfl
        | some t => simp only; rw [chain_congr n t (fun t' ht => h t' (by simp only [chainSlots, hd, Option.bind_some, hl, List.mem_append]; exact .inr ht))]
theorem gexp_congr : ∀ (n : Nat) (p : Nat × Bool), (∀ t, t ∈ chainSlots ops r n p → look r2.s t = look r.s t) → gexp ops r2 n p = gexp ops r n p
  | 0, p, h => rfl
  | n + 1, p, h => by
    simp only [gexp]
    cases hd : dstOf ops p.1 with
    | none => rfl
    | some d =>
      have e := h d (by simp [chainSlots, hd])
      simp only [Option.bind_some]
      rw [e]
      cases hl : look r.s d with
      | none => rfl
      | some q =>
        obtain ⟨tg, v⟩ := q
        cases tg with
        | none =>
          rcases v with ⟨⟨c⟩ | _⟩ | _ | _ <;> try rfl
          cases c <;> try rfl
          rename_i vv
          cases vv <;> rfl
        | some t =>
          have := gexp_congr n t (fun t' ht => h t' (by simp only [chainSlots, hd, Option.bind_some, hl, List.mem_append]; exact .inr ht))
          rcases v with ⟨⟨c⟩ | _⟩ | _ | _ <;> try rfl
          cases c <;> try rfl
          rename_i vv
          cases vv <;> try rfl
          simp only [this]
theorem mayPut_congr {x : OR} {d : Option Nat} (h : ∀ q, x.nb = some q → ∀ e, d = some e → look r2.b e = look r.b e) : mayPut N r2 x d = mayPut N r x d := by
  unfold mayPut
  cases d with
  | none => rfl
  | some d =>
    simp only
    cases hn : x.nb with
    | none => rfl
    | some q => rw [h q hn d rfl]
theorem evStep_congr {cs : List Bool} {r' : RS} {x : OR} (h : evStep sig N ops r o = some (cs, r', x)) (hs : ∀ t, t ∈ (fpOf ops r o x).rs → look r2.s t = look r.s t) (hb : ∀ b, b ∈ (fpOf ops r o x).rb → look r2.b b = look r.b b) :
    evStep sig N ops r2 o = some (cs, after r2 o.guard o.dst x, x) := by
  have hs1 : ∀ t, t ∈ tmpsOf (opOps o.op) → look r2.s t = look r.s t := fun t ht => hs t (by simp only [fpOf, List.mem_append]; exact .inl ht)
  have hb1 : ∀ b, b ∈ x.rb → look r2.b b = look r.b b := fun b hbm => hb b (by simp only [fpOf, List.mem_append]; exact .inl hbm)
  have hmp : mayPut N r2 x o.dst = mayPut N r x o.dst := mayPut_congr fun q hq e he => hb e (by simp [fpOf, hq, he])
  unfold evStep at h ⊢
  split at h
  · rename_i hg
    rw [hg]
    (try dsimp only)
    split at h
    · rename_i x' hx
      cases hm : mayPut N r x' o.dst with
      | false => rw [hm] at h; cases h
      | true =>
        rw [hm] at h
        simp only [cond_true, Option.some.injEq, Prod.mk.injEq] at h
        obtain ⟨rfl, rfl, rfl⟩ := h
        have hx2 : evAny sig ops r2 [] o = some x' := evAny_congr hx hs1 hb1
        rw [hx2]
        simp only [hmp, hm, cond_true]
    · cases h
  · rename_i g hg
    rw [hg]
    (try dsimp only)
    have hch : ∀ t, t ∈ chainSlots ops r 8 g → look r2.s t = look r.s t := fun t ht => hs t (by simp only [fpOf, hg, List.mem_append]; exact .inr ht)
    rw [chain_congr 8 g hch, gexp_congr 8 g hch]
    split at h
    · rename_i x' e hx he
      cases hm : (mayPut N r x' o.dst && !(isEff x') && notOwn ops g.1 o.dst) with
      | false => rw [hm] at h; cases h
      | true =>
        rw [hm] at h
        simp only [cond_true, Option.some.injEq, Prod.mk.injEq] at h
        obtain ⟨rfl, rfl, rfl⟩ := h
        have hx2 : evAny sig ops r2 (chainOf ops r 8 g) o = some x' := evAny_congr hx hs1 hb1
        rw [hx2, he]
        simp only [hmp, hm, cond_true]
    · cases h
end
end Go.Proofs.Ytoknhjmcoleejaa
