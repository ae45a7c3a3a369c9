/- The arguments of a law, opened: what comes in stands as plain data in the caller's memory. No condition. -/
import Derived.Test.YtoknhjmcoleejaaFC
import Derived.Test.YtoknhjmcoleejaaFM
import Derived.Test.YtoknhjmcoleejaaRows
import Derived.WalkKit
import Derived.ProofKit
import Derived.OpenShut
import Derived.ChangeOld
import Derived.Below
set_option linter.unusedVariables false
set_option linter.unusedSimpArgs false
namespace Go.Proofs.Ytoknhjmcoleejaa
open Go.RowKit

/-- A type's cells, each by its own type; structs are taken apart. -/
def leavesF (P : Program) (g : TypeId → Option (List TypeId)) : Nat → List Field → Option (List TypeId × Nat)
  | o, [] => some ([], o)
  | o, f :: fs => bif Nat.beq f.offset o then match g f.type with
    | some l => bif Nat.beq l.length (P.cellsOf f.type) then match leavesF P g (o + l.length) fs with
      | some (r, o') => some (l ++ r, o')
      | none => none
      else none
    | none => none
    else none
def leaves (P : Program) : Nat → TypeId → Option (List TypeId)
  | 0, _ => none
  | d + 1, t => match P.underlying t with
    | some (.struct fs) => match leavesF P (leaves P d) 0 fs.toList with
      | some (l, o) => bif Nat.beq o (P.cellsOf t) then some l else none
      | none => none
    | some .bool => some [t]
    | some (.int _) => some [t]
    | some (.slice _) => some [t]
    | _ => none
section
variable {H : Type} {enc : TypeId × Value → H} {P : Program} {w : World} {base : Nat} {spare : Nat → Bool} {held : Bool}
/-- One cell reads, by its type. -/
def Lf (enc : TypeId × Value → H) (P : Program) (w : World) (base : Nat) (spare : Nat → Bool) (held : Bool) (t : TypeId) (v : Value) : Prop := ∃ n y, DataW.trod enc P w base spare held n t [v] = some y
def Lfs (enc : TypeId × Value → H) (P : Program) (w : World) (base : Nat) (spare : Nat → Bool) (held : Bool) : List TypeId → List Value → Prop
  | [], [] => True
  | t :: ts, v :: vs => Lf enc P w base spare held t v ∧ Lfs enc P w base spare held ts vs
  | _, _ => False
theorem lfs_append : ∀ {ts : List TypeId} {vs : List Value} {ts' : List TypeId} {vs' : List Value}, Lfs enc P w base spare held ts vs → Lfs enc P w base spare held ts' vs' → Lfs enc P w base spare held (ts ++ ts') (vs ++ vs')
  | [], [], _, _, _, h => h
  | _ :: _, _ :: _, _, _, h, h' => ⟨h.1, lfs_append h.2 h'⟩
  | [], _ :: _, _, _, h, _ => h.elim
  | _ :: _, [], _, _, h, _ => h.elim
theorem lfs_length : ∀ {ts : List TypeId} {vs : List Value}, Lfs enc P w base spare held ts vs → ts.length = vs.length
  | [], [], _ => rfl
  | _ :: _, _ :: _, h => by simp [lfs_length h.2]
  | [], _ :: _, h => h.elim
  | _ :: _, [], h => h.elim
theorem leavesF_r {g : TypeId → Option (List TypeId)} {cs : List Value} (hg : ∀ (f : Field) ts, g f.type = some ts → ∀ n vs y, DataW.trod enc P w base spare held n f.type vs = some y → Lfs enc P w base spare held ts vs) : ∀ (fs : List Field) (o : Nat) (r : List TypeId) (o' : Nat),
    (∀ f, f ∈ fs → ∃ n y, DataW.trod enc P w base spare held n f.type ((cs.drop f.offset).take (P.cellsOf f.type)) = some y) → leavesF P g o fs = some (r, o') → o' = cs.length → Lfs enc P w base spare held r (cs.drop o)
  | [], o, r, o', _, h, he => by
    cases h
    subst he
    rw [List.drop_length]
    trivial
  | f :: fs, o, r, o', hf, h, he => by
    unfold leavesF at h
    cases hb : Nat.beq f.offset o with
    | false => rw [hb] at h; cases h
    | true =>
      have ho := Nat.eq_of_beq_eq_true hb
      rw [hb] at h
      simp only [cond_true] at h
      cases hl : g f.type with
      | none => rw [hl] at h; cases h
      | some l =>
        rw [hl] at h
        simp only at h
        cases hb2 : Nat.beq l.length (P.cellsOf f.type) with
        | false => rw [hb2] at h; cases h
        | true =>
          have hlen := Nat.eq_of_beq_eq_true hb2
          rw [hb2] at h
          simp only [cond_true] at h
          cases hr : leavesF P g (o + l.length) fs with
          | none => rw [hr] at h; cases h
          | some p =>
            obtain ⟨r1, o1⟩ := p
            rw [hr] at h
            cases h
            obtain ⟨n, y, hy⟩ := hf f (by simp)
            have h1 := hg f l hl n _ y hy
            have h2 := leavesF_r hg fs (o + l.length) r1 _ (fun f' hf' => hf f' (by simp [hf'])) hr he
            rw [ho, ← hlen] at h1
            have := lfs_append h1 h2
            rwa [show cs.drop (o + l.length) = (cs.drop o).drop l.length by rw [List.drop_drop], List.take_append_drop] at this
theorem leaves_r : ∀ (d : Nat) (t : TypeId) (ts : List TypeId), leaves P d t = some ts → ∀ n vs y, DataW.trod enc P w base spare held n t vs = some y → Lfs enc P w base spare held ts vs
  | 0, _, _, h => by cases h
  | d + 1, t, ts, h => by
    intro n vs y hy
    unfold leaves at h
    split at h
    · rename_i fs ht
      cases hl : leavesF P (leaves P d) 0 fs.toList with
      | none => rw [hl] at h; cases h
      | some p =>
        obtain ⟨l, o⟩ := p
        rw [hl] at h
        simp only at h
        cases hb : Nat.beq o (P.cellsOf t) with
        | false => rw [hb] at h; cases h
        | true =>
          have ho := Nat.eq_of_beq_eq_true hb
          rw [hb] at h
          cases h
          obtain ⟨xs, m, rfl, rfl, hc, hx, hall⟩ := DataW.trod_struct ht hy
          have := leavesF_r (cs := vs) (fun f ts' h' => leaves_r d f.type ts' h') fs.toList 0 _ o (fun f hf => ?_) hl (by omega)
          · simpa using this
          · obtain ⟨i, hi, rfl⟩ := List.getElem_of_mem hf
            have hi' : i < xs.length := by simpa [hx] using hi
            have := hall i fs.toList[i] (by simp [Array.getElem?_eq_getElem (show i < fs.size by simpa using hi)])
            rw [List.getElem?_eq_getElem hi'] at this
            exact ⟨m, _, this⟩
    · rename_i ht
      cases h
      obtain ⟨b, rfl, _⟩ := DataW.trod_bool ht hy
      exact ⟨⟨n, y, hy⟩, trivial⟩
    · rename_i ht
      cases h
      obtain ⟨b, rfl, _⟩ := DataW.trod_int ht hy
      exact ⟨⟨n, y, hy⟩, trivial⟩
    · rename_i ht
      cases h
      rcases DataW.trod_slice ht hy with ⟨rfl, _⟩ | ⟨a, len, cap, _, _, _, _, rfl, _⟩
      · exact ⟨⟨n, y, hy⟩, trivial⟩
      · exact ⟨⟨n, y, hy⟩, trivial⟩
    · cases h

abbrev GT : Nat → Prop := fun _ => True
/-- Elements of a kind read as plain data. -/
def OpK (enc : TypeId × Value → H) (P : Program) (w : World) (base : Nat) (spare : Nat → Bool) (held : Bool) (k : K) : Prop :=
  ∀ n vs y, DataW.trod enc P w base spare held n (elemT k) vs = some y → ∃ x : ty k, CsR w dg GT (cells k x) vs
theorem lf_i64 {t : TypeId} {v : Value} (ht : P.underlying t = some (.int .i64)) (h : Lf enc P w base spare held t v) : ∃ n : Int, v = .int .i64 n := by
  obtain ⟨n, y, hy⟩ := h
  obtain ⟨m, e, _⟩ := DataW.trod_int ht hy
  exact ⟨m, (List.cons.inj e).1⟩
theorem lf_bool {t : TypeId} {v : Value} (ht : P.underlying t = some .bool) (h : Lf enc P w base spare held t v) : ∃ b, v = .bool b := by
  obtain ⟨n, y, hy⟩ := h
  obtain ⟨m, e, _⟩ := DataW.trod_bool ht hy
  exact ⟨m, (List.cons.inj e).1⟩
theorem lf_sl {k : K} {t : TypeId} {v : Value} (ht : P.underlying t = some (.slice (elemT k))) (hc : P.cellsOf (elemT k) = width k) (ho : OpK enc P w base spare held k) (h : Lf enc P w base spare held t v) :
    ∃ xs : List (ty k), CR w dg GT (.sl k xs) v := by
  obtain ⟨n, y, hy⟩ := h
  rcases DataW.trod_slice ht hy with ⟨e, _⟩ | ⟨a, len, cap, elems, rest, m, _, e, _, hb, hl, _, hel, hall, _⟩
  · obtain rfl := (List.cons.inj e).1
    exact ⟨[], .slnil⟩
  · obtain rfl := (List.cons.inj e).1
    have each : ∀ i, i < len → ∃ x : ty k, ∀ j c, (cells k x)[j]? = some c → w.cell? (a.add (i * width k + j)) = some ((w.cell? (a.add (i * width k + j))).getD undef) ∧ CR w dg GT c ((w.cell? (a.add (i * width k + j))).getD undef) := by
      intro i hi
      have h1 := hall i hi
      rw [hc, List.getElem?_eq_getElem (by omega), Option.bind_eq_some_iff] at h1
      obtain ⟨vs, h2, h3⟩ := h1
      obtain ⟨x, hx⟩ := ho _ _ _ h3
      refine ⟨x, fun j c hj => ?_⟩
      obtain ⟨v, hv, hcr⟩ := hx.get hj
      have h4 : w.cell? (a.add (i * width k + j)) = some v := by
        unfold World.cells? at h2
        split at h2
        · have hjl : j < width k := by have := (List.getElem?_eq_some_iff.1 hj).1; rwa [cells_length] at this
          have := mapM_some_get h2 j j (by simp [hjl])
          rw [add_add, hv] at this
          exact this
        · cases h2
      rw [h4]
      exact ⟨rfl, hcr⟩
    let g : Nat → ty k := fun i => if hi : i < len then Classical.choose (each i hi) else zero k
    have hg : ∀ i, i < len → ∀ j c, (cells k (g i))[j]? = some c → w.cell? (a.add (i * width k + j)) = some ((w.cell? (a.add (i * width k + j))).getD undef) ∧ CR w dg GT c ((w.cell? (a.add (i * width k + j))).getD undef) := by
      intro i hi
      have e : g i = Classical.choose (each i hi) := by simp only [g]; rw [dif_pos hi]
      rw [e]
      exact Classical.choose_spec (each i hi)
    have hlen : ((List.range len).map g).length = len := by simp
    have hget : ∀ i x, ((List.range len).map g)[i]? = some x → i < len ∧ x = g i := by
      intro i x hx
      obtain ⟨hi, e⟩ := List.getElem?_eq_some_iff.1 hx
      rw [hlen] at hi
      simp at e
      exact ⟨hi, e.symm⟩
    refine ⟨(List.range len).map g, ?_⟩
    have := CR.sl (w := w) (μ := dg) (G := GT) (k := k) (xs := (List.range len).map g) (A := a) (cap := cap) (fun p => (w.cell? (a.add p)).getD undef) (by omega) (fun _ => trivial)
      (fun i x hx j c hj => by
        obtain ⟨hi, rfl⟩ := hget i x hx
        exact (hg i hi j c hj).1)
      (fun i x hx j c hj => by
        obtain ⟨hi, rfl⟩ := hget i x hx
        exact (hg i hi j c hj).2)
    rwa [hlen] at this
theorem lfs_cons {t : TypeId} {ts : List TypeId} {vs : List Value} (h : Lfs enc P w base spare held (t :: ts) vs) : ∃ v vs', vs = v :: vs' ∧ Lf enc P w base spare held t v ∧ Lfs enc P w base spare held ts vs' := by
  cases vs with
  | nil => exact h.elim
  | cons v vs => exact ⟨v, vs, rfl, h.1, h.2⟩
theorem lfs_nil {vs : List Value} (h : Lfs enc P w base spare held [] vs) : vs = [] := by
  cases vs with
  | nil => rfl
  | cons v vs => exact h.elim
theorem cr_i64 {n : Int} : CR w dg GT (i64 n) (.int .i64 n) := .val _ rfl
theorem op_int (h3 : P.underlying 3 = some (.int .i64)) : OpK enc P w base spare held .int := by
  intro n vs y hy
  obtain ⟨m, e, _⟩ := DataW.trod_int h3 hy
  subst e
  exact ⟨m, cr_i64, trivial⟩
theorem op_bl (h3 : P.underlying 4 = some .bool) : OpK enc P w base spare held .bl := by
  intro n vs y hy
  obtain ⟨m, e, _⟩ := DataW.trod_bool h3 hy
  subst e
  exact ⟨m, .val _ rfl, trivial⟩
theorem wf_u8 {m : Int} (h : (Lit.int .u8 m).wf = true) : ∃ x : UInt8, (x.toNat : Int) = m := by
  have := bounds_u8 h
  exact ⟨UInt8.ofNat m.toNat, by rw [UInt8.toNat_ofNat']; omega⟩
theorem wf_u32 {m : Int} (h : (Lit.int .u32 m).wf = true) : ∃ x : UInt32, (x.toNat : Int) = m := by
  have := bounds_u32 h
  exact ⟨UInt32.ofNat m.toNat, by rw [UInt32.toNat_ofNat']; omega⟩
theorem op_u8 (h3 : P.underlying 5 = some (.int .u8)) : OpK enc P w base spare held .u8 := by
  intro n vs y hy
  obtain ⟨m, e, _, hw⟩ := DataW.trod_int h3 hy
  subst e
  obtain ⟨x, rfl⟩ := wf_u8 hw
  exact ⟨x, .val _ rfl, trivial⟩
theorem op_u32 (h3 : P.underlying 69 = some (.int .u32)) : OpK enc P w base spare held .u32 := by
  intro n vs y hy
  obtain ⟨m, e, _, hw⟩ := DataW.trod_int h3 hy
  subst e
  obtain ⟨x, rfl⟩ := wf_u32 hw
  exact ⟨x, .val _ rfl, trivial⟩
theorem op_vert (h3 : P.underlying 3 = some (.int .i64)) (hl : leaves P 4 38 = some [3, 3]) : OpK enc P w base spare held .vert := by
  intro n vs y hy
  obtain ⟨v1, _, rfl, l1, h⟩ := lfs_cons (leaves_r 4 38 _ hl n vs y hy)
  obtain ⟨v2, _, rfl, l2, h⟩ := lfs_cons h
  obtain rfl := lfs_nil h
  obtain ⟨a, rfl⟩ := lf_i64 h3 l1
  obtain ⟨b, rfl⟩ := lf_i64 h3 l2
  exact ⟨(⟨a, b⟩ : Vert), cr_i64, cr_i64, trivial⟩
theorem op_link (h3 : P.underlying 3 = some (.int .i64)) (hl : leaves P 4 50 = some [3, 3, 3, 3]) : OpK enc P w base spare held .link := by
  intro n vs y hy
  obtain ⟨v1, _, rfl, l1, h⟩ := lfs_cons (leaves_r 4 50 _ hl n vs y hy)
  obtain ⟨v2, _, rfl, l2, h⟩ := lfs_cons h
  obtain ⟨v3, _, rfl, l3, h⟩ := lfs_cons h
  obtain ⟨v4, _, rfl, l4, h⟩ := lfs_cons h
  obtain rfl := lfs_nil h
  obtain ⟨a, rfl⟩ := lf_i64 h3 l1
  obtain ⟨b, rfl⟩ := lf_i64 h3 l2
  obtain ⟨c, rfl⟩ := lf_i64 h3 l3
  obtain ⟨d, rfl⟩ := lf_i64 h3 l4
  exact ⟨(⟨a, b, c, d⟩ : Link), cr_i64, cr_i64, cr_i64, cr_i64, trivial⟩
theorem op_route (h3 : P.underlying 3 = some (.int .i64)) (hl : leaves P 4 80 = some [3, 3, 3, 3, 3]) : OpK enc P w base spare held .route := by
  intro n vs y hy
  obtain ⟨v1, _, rfl, l1, h⟩ := lfs_cons (leaves_r 4 80 _ hl n vs y hy)
  obtain ⟨v2, _, rfl, l2, h⟩ := lfs_cons h
  obtain ⟨v3, _, rfl, l3, h⟩ := lfs_cons h
  obtain ⟨v4, _, rfl, l4, h⟩ := lfs_cons h
  obtain ⟨v5, _, rfl, l5, h⟩ := lfs_cons h
  obtain rfl := lfs_nil h
  obtain ⟨a, rfl⟩ := lf_i64 h3 l1
  obtain ⟨b, rfl⟩ := lf_i64 h3 l2
  obtain ⟨c, rfl⟩ := lf_i64 h3 l3
  obtain ⟨d, rfl⟩ := lf_i64 h3 l4
  obtain ⟨e, rfl⟩ := lf_i64 h3 l5
  exact ⟨(⟨a, b, c, d, e⟩ : Route), cr_i64, cr_i64, cr_i64, cr_i64, cr_i64, trivial⟩
theorem op_lsa (h3 : P.underlying 3 = some (.int .i64)) (hl : leaves P 4 48 = some [3, 3, 3, 3, 3, 3, 3, 3, 46, 3, 28, 24]) (h46 : P.underlying 46 = some (.slice 50)) (h28 : P.underlying 28 = some (.slice 3)) (h24 : P.underlying 24 = some (.slice 38))
    (c50 : P.cellsOf 50 = 4) (c3 : P.cellsOf 3 = 1) (c38 : P.cellsOf 38 = 2) (o50 : OpK enc P w base spare held .link) (o3 : OpK enc P w base spare held .int) (o38 : OpK enc P w base spare held .vert) : OpK enc P w base spare held .lsa := by
  intro n vs y hy
  obtain ⟨v1, _, rfl, l1, h⟩ := lfs_cons (leaves_r 4 48 _ hl n vs y hy)
  obtain ⟨v2, _, rfl, l2, h⟩ := lfs_cons h
  obtain ⟨v3, _, rfl, l3, h⟩ := lfs_cons h
  obtain ⟨v4, _, rfl, l4, h⟩ := lfs_cons h
  obtain ⟨v5, _, rfl, l5, h⟩ := lfs_cons h
  obtain ⟨v6, _, rfl, l6, h⟩ := lfs_cons h
  obtain ⟨v7, _, rfl, l7, h⟩ := lfs_cons h
  obtain ⟨v8, _, rfl, l8, h⟩ := lfs_cons h
  obtain ⟨v9, _, rfl, l9, h⟩ := lfs_cons h
  obtain ⟨v10, _, rfl, l10, h⟩ := lfs_cons h
  obtain ⟨v11, _, rfl, l11, h⟩ := lfs_cons h
  obtain ⟨v12, _, rfl, l12, h⟩ := lfs_cons h
  obtain rfl := lfs_nil h
  obtain ⟨x1, rfl⟩ := lf_i64 h3 l1
  obtain ⟨x2, rfl⟩ := lf_i64 h3 l2
  obtain ⟨x3, rfl⟩ := lf_i64 h3 l3
  obtain ⟨x4, rfl⟩ := lf_i64 h3 l4
  obtain ⟨x5, rfl⟩ := lf_i64 h3 l5
  obtain ⟨x6, rfl⟩ := lf_i64 h3 l6
  obtain ⟨x7, rfl⟩ := lf_i64 h3 l7
  obtain ⟨x8, rfl⟩ := lf_i64 h3 l8
  obtain ⟨x9, s9⟩ := lf_sl (k := .link) h46 c50 o50 l9
  obtain ⟨x10, rfl⟩ := lf_i64 h3 l10
  obtain ⟨x11, s11⟩ := lf_sl (k := .int) h28 c3 o3 l11
  obtain ⟨x12, s12⟩ := lf_sl (k := .vert) h24 c38 o38 l12
  exact ⟨(⟨⟨x1, x2, x3, x4, x5, x6, x7⟩, x8, x9, x10, x11, x12⟩ : Lsa), cr_i64, cr_i64, cr_i64, cr_i64, cr_i64, cr_i64, cr_i64, cr_i64, s9, cr_i64, s11, s12, trivial⟩
end

/-! ### a contract met by plain arguments -/
def AK.top : AK → Bool
  | .int | .bool | .u8 | .sl _ | .vert | .ik _ => true
  | _ => false
theorem AK.dec_enc {a : AK} (h : a.top = true) (x : a.T) : a.dec (a.enc x) = some x := by
  cases a with
  | u8 =>
    have := UInt8.toNat_lt x
    change (if 0 ≤ ((x.toNat : Nat) : Int) ∧ ((x.toNat : Nat) : Int) < 256 then some (UInt8.ofNat ((x.toNat : Nat) : Int).toNat) else none) = some x
    rw [if_pos (by omega)]
    simp
  | sl k =>
    change slX k (.sl k x) = some x
    simp [slX]
  | ik q =>
    change (if q = q then some x else none) = some x
    rw [if_pos rfl]
  | int => rfl
  | bool => rfl
  | vert => rfl
  | _ => cases h
theorem decs_encs : ∀ {l : List AK} (h : l.all AK.top = true) (x : ATs l), decs l (encs l x) = some x
  | [], _, _ => rfl
  | a :: l, h, (x, xs) => by
    simp only [List.all_cons, Bool.and_eq_true] at h
    simp only [encs, decs, AK.dec_enc h.1, decs_encs h.2]
theorem mkSm_enc {l : List AK} {pre : ATs l → List Bool} {res : ATs l → SR} (h : l.all AK.top = true) (x : ATs l) : mkSm l pre res (encs l x) = some (pre x, res x) := by
  unfold mkSm
  rw [decs_encs h x]

/-! ### of this program -/
section
variable {H : Type} {enc : TypeId × Value → H} {w : World} {base : Nat} {spare : Nat → Bool} {held : Bool} {v : Value} {d : DataW H} {ps : List MemPlace}
theorem try_op_int : OpK enc Try.prog w base spare held .int := op_int Try.underlying3
theorem try_op_bl : OpK enc Try.prog w base spare held .bl := op_bl Try.underlying4
theorem try_op_u8 : OpK enc Try.prog w base spare held .u8 := op_u8 Try.underlying5
theorem try_op_u32 : OpK enc Try.prog w base spare held .u32 := op_u32 Try.underlying69
theorem try_op_vert : OpK enc Try.prog w base spare held .vert := op_vert Try.underlying3 (by kernel_rfl)
theorem try_op_link : OpK enc Try.prog w base spare held .link := op_link Try.underlying3 (by kernel_rfl)
theorem try_op_route : OpK enc Try.prog w base spare held .route := op_route Try.underlying3 (by kernel_rfl)
theorem try_op_lsa : OpK enc Try.prog w base spare held .lsa := op_lsa Try.underlying3 (by kernel_rfl) (by kernel_rfl) (by kernel_rfl) (by kernel_rfl) (by kernel_rfl) (by kernel_rfl) (by kernel_rfl) try_op_link try_op_int try_op_vert
/-- An argument of a kind. -/
theorem arg_sl {k : K} {t : TypeId} (ho : OpK enc Try.prog w base spare held k) (ht : Try.prog.underlying t = some (.slice (elemT k))) (hc : Try.prog.cellsOf (elemT k) = width k) (hv : ∃ a n c, v = .slice a n c) (h : DataW.Trod enc Try.prog w base spare held t v d ps) :
    ∃ xs : List (ty k), AVR w dg GT (AK.enc (.sl k) xs) v := by
  obtain ⟨n, hn⟩ := h
  obtain ⟨a, m, c, rfl⟩ := hv
  obtain ⟨xs, hx⟩ := lf_sl (k := k) ht hc ho ⟨n, _, hn⟩
  exact ⟨xs, hx⟩
theorem arg_vert (hv : ∃ cs, v = .agg cs ∧ cs.size = Try.prog.cellsOf 38) (h : DataW.Trod enc Try.prog w base spare held 38 v d ps) : ∃ x : Vert, AVR w dg GT (AK.enc .vert x) v := by
  obtain ⟨n, hn⟩ := h
  obtain ⟨cs, rfl, _⟩ := hv
  obtain ⟨x, hx⟩ := try_op_vert n _ _ hn
  exact ⟨x, cs, rfl, hx⟩
theorem arg_ik {P : Program} {q : IntKind} {t : TypeId} (ht : P.underlying t = some (.int q)) (hv : ∃ n, v = .int q n) (h : DataW.Trod enc P w base spare held t v d ps) : ∃ n, v = .int q n ∧ (Lit.int q n).wf = true := by
  obtain ⟨a, rfl⟩ := hv
  obtain ⟨n, hn⟩ := h
  obtain ⟨m, e, _, hw⟩ := DataW.trod_int ht hn
  cases e
  exact ⟨_, rfl, hw⟩
theorem arg_int (h : ∃ n, v = .int .i64 n ∧ (Lit.int .i64 n).wf = true) : ∃ x : Int, AVR w dg GT (AK.enc .int x) v := by
  obtain ⟨a, rfl, _⟩ := h
  exact ⟨a, cr_i64⟩
theorem arg_u8 (h : ∃ n, v = .int .u8 n ∧ (Lit.int .u8 n).wf = true) : ∃ x : UInt8, AVR w dg GT (AK.enc .u8 x) v := by
  obtain ⟨a, rfl, hw⟩ := h
  obtain ⟨x, rfl⟩ := wf_u8 hw
  exact ⟨x, .val _ rfl⟩
theorem arg_u32 (h : ∃ n, v = .int .u32 n ∧ (Lit.int .u32 n).wf = true) : ∃ x : UInt32, AVR w dg GT (AK.enc (.ik .u32) (x.toNat : Int)) v := by
  obtain ⟨a, rfl, hw⟩ := h
  obtain ⟨x, rfl⟩ := wf_u32 hw
  exact ⟨x, .val _ rfl⟩
theorem arg_bool (h : ∃ b, v = .bool b) : ∃ x : Bool, AVR w dg GT (AK.enc .bool x) v := by
  obtain ⟨n, rfl⟩ := h
  exact ⟨n, .val _ rfl⟩
theorem cr_bo {G : Nat → Prop} {b : Bool} {u : Value} (h : AVR w dg G (.v (.c (bo b))) u) : u = .bool b := by
  cases h
  rfl
end
end Go.Proofs.Ytoknhjmcoleejaa
