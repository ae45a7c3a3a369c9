/- What the model's own reads and writes do where the relation holds. No condition. -/
import Derived.Test.YtoknhjmcoleejaaED
set_option linter.unusedVariables false
set_option linter.unusedSimpArgs false
namespace Go.Proofs.Ytoknhjmcoleejaa
open Go.RowKit

structure TyOK (P : Program) (t : TypeId) (x : Ty) : Prop where
  und : match x.sh with
    | .int k => P.underlying t = some (.int k)
    | .bool => P.underlying t = some .bool
    | .slice k => P.underlying t = some (.slice (elemT k))
    | .agg fs => ∃ F : Array Field, P.underlying t = some (.struct F) ∧ F.toList.map (fun f => (f.offset, f.type)) = fs
    | .other => False
  info : ∃ i z, P.info? t = some i ∧ i.size = x.size ∧ i.zero = some z ∧ z.cells.toList.map C.val = x.zero ∧ z.cells.toList.all (fun v => v.oneCell') = true ∧ z.cells.size = x.size
  nz : 0 < x.size
structure ElOK (P : Program) (k : K) : Prop where
  info : ∃ i z, P.info? (elemT k) = some i ∧ i.size = width k ∧ i.bytes = bytesT k ∧ i.zero = some z ∧ z.cells.size = width k ∧ ∀ w μ G, CsR w μ G (cells k (zero k)) z.cells.toList
/-- Maps keyed by vertices, of a type: what looking up and laying down do. -/
structure MapOK (P : Program) (t : TypeId) {α : Type} (f : α → Value) (z : α) : Prop where
  look : ∀ (w : World) (B : Nat) (es : Array MapEntry) (clk : Nat) (kv : List (Vert × α)), w.heap[B]? = some (.map es clk) → es.toList.map (fun e => (e.key, e.val)) = kv.map (fun p => (vertV p.1, f p.2)) → ∀ (u : Vert) (c : Bool),
    (Instr.lookup t (.map (some B)) (vertV u) c).run P w = .ok (if c then .tuple #[f ((S.kvLook u kv).getD z), .bool (S.kvLook u kv).isSome] else f ((S.kvLook u kv).getD z)) w
  upd : ∀ (w : World) (B : Nat) (es : Array MapEntry) (clk : Nat) (kv : List (Vert × α)), w.heap[B]? = some (.map es clk) → es.toList.map (fun e => (e.key, e.val)) = kv.map (fun p => (vertV p.1, f p.2)) → ∀ (u : Vert) (x : α),
    ∃ es' clk', (Instr.mapUpdate t (.map (some B)) (vertV u) (f x)).run P w = .ok () { w with heap := w.heap.setIfInBounds B (.map es' clk') } ∧ es'.toList.map (fun e => (e.key, e.val)) = (S.kvPut u x kv).map (fun p => (vertV p.1, f p.2))
structure TOK (P : Program) : Prop where
  mpb : MapOK P 106 Value.bool false
  mpi : MapOK P 107 (Value.int .i64) 0
  ty : ∀ t x, look TT t = some x → TyOK P t x
  el : ∀ k, ElOK P k
  mixed : P.follows .mixedOrders = true
  eqg : ∀ t, nmem t eqTs = true → P.eqGuardType P.depth t = false
  eqs : ∀ t n fs z, nmem t eqTs = true → look TT t = some ⟨.agg fs, n, z⟩ → ∀ (as bs : List Int) (w : World), as.length = n → bs.length = n →
    (Op.equal t (.agg (as.map (Value.int .i64)).toArray) (.agg (bs.map (Value.int .i64)).toArray)).run P w = .ok (decide (as = bs)) w

section
variable {R : RT} {P : Program} {w w' : World} {μ μ' : Nat → Gh} {G : Nat → Prop}
theorem add_add (A : Addr) (m n : Nat) : (A.add m).add n = A.add (m + n) := by
  unfold Addr.add
  by_cases hm : m = 0
  · subst hm; simp
  · by_cases hn : n = 0
    · subst hn; simp [hm]
    · simp [hm, hn, Nat.add_assoc]
theorem add_mk (B o n : Nat) : (⟨B, o, none⟩ : Addr).add n = ⟨B, o + n, none⟩ := by
  unfold Addr.add
  split
  · rename_i h; subst h; rfl
  · rfl
theorem add_block (A : Addr) (n : Nat) : (A.add n).block = A.block := by unfold Addr.add; split <;> rfl

/-- The cells at an address. -/
def At (w : World) (A : Addr) (vs : List Value) : Prop := ∀ j v, vs[j]? = some v → w.cell? (A.add j) = some v
theorem At.take {A : Addr} {vs : List Value} (h : At w A vs) (n : Nat) : At w A (vs.take n) := fun j v hj => h j v (by
  rw [List.getElem?_take] at hj
  split at hj
  · exact hj
  · cases hj)
theorem At.drop {A : Addr} {vs : List Value} (h : At w A vs) (n : Nat) : At w (A.add n) (vs.drop n) := fun j v hj => by
  rw [add_add]
  rw [List.getElem?_drop] at hj
  exact h _ v hj

theorem isAgg_run {t : TypeId} {x : Ty} (h : TyOK P t x) (w : World) : (isAgg t).run P w = .ok (match x.sh with | .agg _ => true | _ => false) w := by
  have hu := h.und
  obtain ⟨sh, n, z⟩ := x
  cases sh with
  | agg fs => obtain ⟨F, hF, _⟩ := hu; simp [isAgg, underlying, hF]
  | int k => simp only at hu; simp [isAgg, underlying, hu]
  | bool => simp only at hu; simp [isAgg, underlying, hu]
  | slice k => simp only at hu; simp [isAgg, underlying, hu]
  | other => exact hu.elim
theorem sizeOf_run {t : TypeId} {x : Ty} (h : TyOK P t x) (w : World) : (sizeOf t).run P w = .ok x.size w := by
  obtain ⟨i, z, hi, hs, _⟩ := h.info
  simp [sizeOf, typeInfo, hi, hs]
theorem zero_run {t : TypeId} {x : Ty} (h : TyOK P t x) (w : World) : ∃ z, (zeroValue t).run P w = .ok z w ∧ z.cells.toList.map C.val = x.zero ∧ z.cells.toList.all (fun v => v.oneCell') = true ∧ z.cells.size = x.size := by
  obtain ⟨i, z, hi, hs, hz, h1, h2, h3⟩ := h.info
  exact ⟨z, by simp [zeroValue, typeInfo, hi, hz], h1, h2, h3⟩
theorem zero_csr {z : List Value} {cs : List C} (h : z.map C.val = cs) (h1 : z.all (fun v => v.oneCell') = true) : CsR w μ G cs z := by
  subst h
  induction z with
  | nil => trivial
  | cons v l ih =>
    simp only [List.all_cons, Bool.and_eq_true] at h1
    exact ⟨.val v h1.1, ih h1.2⟩

/-- A load. -/
theorem load_run {t : TypeId} {x : Ty} (h : TyOK P t x) {A : Addr} {vs : List Value} (hv : At w A vs) {l : List C} (hc : CsR w μ G l vs) {r : V1}
    (hx : look TT t = some x) (hm : mkV t (l.take x.size) = some r) : ∃ u, (Instr.loadAt t (.pointer (some A))).run P w = .ok u w ∧ V1R w μ G r u := by
  unfold mkV at hm
  rw [hx] at hm
  have hl := (hc.take x.size).length
  have hat := hv.take x.size
  have hcc := hc.take x.size
  obtain ⟨sh, n, z⟩ := x
  simp only at hl hat hcc hm
  have ha := isAgg_run (w := w) h
  have hs := sizeOf_run (w := w) h
  cases sh with
  | agg fs =>
    simp only at hm ha hs
    cases hb : Nat.beq (l.take n).length n with
    | false => rw [hb] at hm; simp at hm
    | true =>
      rw [hb] at hm
      simp only [cond_true, Option.some.injEq] at hm
      subst hm
      have hn := Nat.eq_of_beq_eq_true hb
      have hload := run_loadCells_list (P := P) w A (vs.take n) hat
      rw [← hl, hn] at hload
      exact ⟨.agg (vs.take n).toArray, by simp [Instr.loadAt, Instr.sureAddr, loadVar, ha, hs, hload], ⟨_, rfl, by simpa using hcc⟩⟩
  | other => exact h.und.elim
  | _ =>
    simp only at hm ha hs
    split at hm
    · rename_i c hcs
      simp only [Option.some.injEq] at hm
      subst hm
      rw [hcs] at hcc
      obtain ⟨v, hv', hcr⟩ := hcc.get (i := 0) (c := c) rfl
      have := hat 0 v hv'
      refine ⟨v, ?_, hcr⟩
      have h0 : A.add 0 = A := by simp [Addr.add]
      rw [h0] at this
      simp [Instr.loadAt, Instr.sureAddr, loadVar, ha, this]
    · cases hm

/-- The cells that a pointer's abstract value reads. -/
theorem flatC_cons (k : K) (x : ty k) (l : List (ty k)) : flatC k (x :: l) = cells k x ++ flatC k l := rfl
theorem flatC_append (k : K) (xs ys : List (ty k)) : flatC k (xs ++ ys) = flatC k xs ++ flatC k ys := by simp [flatC]
theorem flatC_length (k : K) (xs : List (ty k)) : (flatC k xs).length = xs.length * width k := by
  induction xs with
  | nil => simp [flatC]
  | cons x l ih => rw [flatC_cons, List.length_append, ih, cells_length, List.length_cons, Nat.add_mul, Nat.one_mul, Nat.add_comm]
theorem flatC_drop (k : K) : ∀ (xs : List (ty k)) (i : Nat), i < xs.length → (flatC k xs).drop (i * width k) = cells k (xs.getD i (zero k)) ++ flatC k (xs.drop (i + 1))
  | [], i, h => by simp at h
  | x :: l, 0, _ => by simp [flatC_cons]
  | x :: l, i + 1, h => by
    rw [flatC_cons, List.drop_append, cells_length, List.drop_of_length_le (by rw [cells_length, Nat.add_mul]; omega)]
    rw [show (i + 1) * width k - width k = i * width k by rw [Nat.add_mul, Nat.one_mul, Nat.add_sub_cancel]]
    rw [flatC_drop k l i (by simpa using h)]
    simp
theorem csr_prefix {cs ds : List C} {vs : List Value} (h : CsR w μ G (cs ++ ds) vs) : CsR w μ G cs (vs.take cs.length) := by
  have := h.take cs.length
  simpa using this
theorem inb_iff {i : Int} {n : Nat} : inb i n = true ↔ 0 ≤ i ∧ i < n := by simp [inb]
theorem box_at {B : Nat} {vs : Array Value} {t : TypeId} {fr : Nat × Nat} (h : w.heap[B]? = some (.cells vs t fr)) (off : Nat) : At w ⟨B, off, none⟩ (vs.toList.drop off) := by
  intro j v hj
  rw [add_mk]
  rw [List.getElem?_drop] at hj
  simp [World.cell?, h]
  simpa using hj
theorem rel_csr {k : K} {x : ty k} {f : Nat → Value} (hc : ∀ j c, (cells k x)[j]? = some c → CR w μ G c (f j)) : CsR w μ G (cells k x) ((List.range (width k)).map f) := by
  refine CsR.of_get (by simp [cells_length]) fun i c v hi hv => ?_
  have hlt : i < width k := by
    rcases Nat.lt_or_ge i (width k) with h | h
    · exact h
    · rw [List.getElem?_eq_none (by rw [cells_length]; exact h)] at hi; cases hi
  rw [List.getElem?_map, List.getElem?_range hlt] at hv
  simp at hv
  subst hv
  exact hc i c hi

theorem hide_length (cs : List C) : (hide cs).length = cs.length := by
  induction cs with
  | nil => rfl
  | cons c l ih => cases c <;> simp [hide, ih]
theorem hide_get : ∀ {cs : List C} {j : Nat} {c' : C}, (hide cs)[j]? = some c' → ∃ c, cs[j]? = some c ∧ ((∃ k ys, c = .sl k ys) ∧ c' = .undef ∨ c' = c ∧ ∀ k ys, c ≠ .sl k ys)
  | [], j, c', h => by simp [hide] at h
  | c :: l, 0, c', h => by
    cases c <;> simp [hide] at h <;> subst h <;> simp
  | c :: l, j + 1, c', h => by
    have : (hide l)[j]? = some c' := by cases c <;> simpa [hide] using h
    obtain ⟨c0, h1, h2⟩ := hide_get this
    exact ⟨c0, by simpa using h1, h2⟩
/-- An element of a deep row, its slices hidden. -/
theorem deep_csr {base : Nat} {k : K} {xs : List (ty k)} {hole : Option (Int × Nat)} {v : Value} {f : Nat → Nat → Value} {vals : List Value} (h : DeepOK base w k xs hole v f vals) (i : Nat) (hi : i < xs.length) (μ : Nat → Gh) (G : Nat → Prop) :
    CsR w μ G (hide (cells k (xs.getD i (zero k)))) ((vals.drop (i * width k)).take (width k)) := by
  have hx : xs[i]? = some (xs.getD i (zero k)) := by simp [List.getD_eq_getElem?_getD, List.getElem?_eq_getElem hi]
  have hvl : vals.length = xs.length * width k := h.row.1
  have hle : i * width k + width k ≤ xs.length * width k := by
    have : (i + 1) * width k ≤ xs.length * width k := Nat.mul_le_mul_right _ hi
    rwa [Nat.add_mul, Nat.one_mul] at this
  refine CsR.of_get (by rw [hide_length, cells_length]; simp; omega) fun j c v' hc hv => ?_
  obtain ⟨c0, h1, h2⟩ := hide_get hc
  obtain ⟨u, h3, h4⟩ := h.cell i _ hx j c0 h1
  have hjl : j < width k := by have := (List.getElem?_eq_some_iff.1 h1).1; rwa [cells_length] at this
  rw [List.getElem?_take, if_pos hjl, List.getElem?_drop, h3] at hv
  obtain rfl := Option.some.inj hv
  rcases h2 with ⟨⟨k', ys, rfl⟩, rfl⟩ | ⟨rfl, hn⟩
  · exact .undef _ h4.1
  · cases c with
    | val x => obtain ⟨rfl, h5⟩ := h4; exact .val _ h5
    | sl k' ys => exact absurd rfl (hn k' ys)
    | _ => exact h4.elim
structure RdAt (R : RT) (w : World) (μ : Nat → Gh) (l : List C) (u : Value) (A : Addr) (vs : List Value) : Prop where
  p : u = .pointer (some A)
  at_ : At w A vs
  cs : CsR w μ (Good R μ) l vs
theorem readAt_r {w0 : World} {r : RS} (hm : Mem R w0 μ r.b w) {c : C} {u : Value} (hc : CR w μ (Good R μ) c u) {cs : List Bool} {l : List C} {rb : List Nat}
    (h : readAt r c = some (cs, l, rb)) (hcs : cs.all id = true) : ∃ A vs, RdAt R w μ l u A vs := by
  cases c with
  | ptr b off =>
    simp only [readAt] at h
    split at h
    · rename_i cs0 t hl
      simp only [Option.some.injEq, Prod.mk.injEq] at h
      obtain ⟨rfl, rfl, rfl⟩ := h
      obtain ⟨B, vs, h1, h2, h3, h4⟩ := hm.bl _ _ hl
      cases hc with
      | ptr hb =>
        rw [h1] at hb
        injection hb with hb
        subst hb
        exact ⟨_, _, rfl, box_at h3 off, h4.drop off⟩
    · cases h
  | rel k x off =>
    simp only [readAt, Option.some.injEq, Prod.mk.injEq] at h
    obtain ⟨rfl, rfl, rfl⟩ := h
    cases hc with
    | rel f hg h0 hc0 =>
      refine ⟨_, _, rfl, At.drop (vs := (List.range (width k)).map f) ?_ off, (rel_csr hc0).drop off⟩
      intro j v hj
      have hlt : j < width k := by
        rcases Nat.lt_or_ge j (width k) with h | h
        · exact h
        · rw [List.getElem?_eq_none (by simpa using h)] at hj; cases hj
      rw [List.getElem?_map, List.getElem?_range hlt] at hj
      simp at hj
      subst hj
      have hcj : (cells k x)[j]? = some ((cells k x)[j]'(by rw [cells_length]; exact hlt)) := List.getElem?_eq_getElem _
      exact h0 j _ hcj
  | elt k b i off =>
    simp only [readAt] at h
    split at h
    · rename_i k' xs hl
      cases hb : Nat.beq k.no k'.no with
      | false => rw [hb] at h; simp at h
      | true =>
        rw [hb] at h
        simp only [cond_true, Option.some.injEq, Prod.mk.injEq] at h
        obtain ⟨rfl, rfl, rfl⟩ := h
        have hk := elemsOf.K.no_inj (Nat.eq_of_beq_eq_true hb)
        subst hk
        obtain ⟨v, vals, h1, h2, h3⟩ := hm.bl _ _ hl
        simp only [List.all_cons, List.all_nil, Bool.and_true, id] at hcs
        have hi := inb_iff.1 hcs
        cases hc with
        | @elt _ _ _ B n c _ hb' =>
          rw [h1] at hb'
          injection hb' with hb'
          subst hb'
          have hlt : i.toNat < xs.length := by omega
          have hd := flatC_drop k xs i.toNat hlt
          have hcs2 := h3.drop (i.toNat * width k)
          rw [hd] at hcs2
          have hcs3 := (csr_prefix hcs2).drop off
          refine ⟨_, _, rfl, ?_, hcs3⟩
          have hA : (⟨B, i.toNat * width k + off, none⟩ : Addr) = ((⟨B, 0, none⟩ : Addr).add (i.toNat * width k)).add off := by rw [add_mk, add_mk, Nat.zero_add]
          rw [hA]
          refine At.drop (At.take (At.drop (vs := vals) ?_ _) _) _
          intro j v hj
          exact h2.cells rfl j v hj
    · rename_i k' xs hole hl
      cases hb : Nat.beq k.no k'.no with
      | false => rw [hb] at h; simp at h
      | true =>
        rw [hb] at h
        simp only [cond_true, Option.some.injEq, Prod.mk.injEq] at h
        obtain ⟨rfl, rfl, rfl⟩ := h
        have hk := elemsOf.K.no_inj (Nat.eq_of_beq_eq_true hb)
        subst hk
        obtain ⟨v, f, vals, h1, h2⟩ := hm.bl _ _ hl
        simp only [List.all_cons, List.all_nil, Bool.and_true, id] at hcs
        have hi := inb_iff.1 hcs
        cases hc with
        | @elt _ _ _ B n c _ hb' =>
          rw [h1] at hb'
          injection hb' with hb'
          subst hb'
          have hlt : i.toNat < xs.length := by omega
          refine ⟨_, _, rfl, ?_, (deep_csr h2 i.toNat hlt μ (Good R μ)).drop off⟩
          have hA : (⟨B, i.toNat * width k + off, none⟩ : Addr) = ((⟨B, 0, none⟩ : Addr).add (i.toNat * width k)).add off := by rw [add_mk, add_mk, Nat.zero_add]
          rw [hA]
          refine At.drop (At.take (At.drop (vs := vals) ?_ _) _) _
          intro j v hj
          exact h2.row.cells rfl j v hj
    · cases h
  | _ => cases h
end
end Go.Proofs.Ytoknhjmcoleejaa
