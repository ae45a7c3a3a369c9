/- A loop's head by the kinds of its slots. No condition. -/
import Derived.Test.YtoknhjmcoleejaaFB
set_option linter.unusedVariables false
set_option linter.unusedSimpArgs false
namespace Go.Proofs.Ytoknhjmcoleejaa
open Go.RowKit

/-- A slot at a loop's head: a value; a row of one's own under the name b; a variable in memory under the name b. -/
inductive HK where
  | av (i : Nat) (a : AK)
  | row (i : Nat) (k : K) (b : Nat)
  | box (i b : Nat) (a : AK) (t : TypeId)
  /-- A map of the document's in memory, its rows of one's own. -/
  | tm (i b b0 b1 b2 b3 b4 : Nat)
  /-- A row whose elements own rows. -/
  | deep (i : Nat) (k : K) (b : Nat)
  /-- Maps keyed by vertices. -/
  | mpb (i b : Nat)
  | mpi (i b : Nat)
  /-- An advertisement in memory, its links (its routers) a row of one's own. -/
  | lsl (i b b0 : Nat)
  | lsr (i b b0 : Nat)
abbrev HK.T : HK → Type
  | .av _ a => a.T
  | .row _ k _ => List (ty k)
  | .box _ _ a _ => a.T
  | .tm _ _ _ _ _ _ _ => TMap
  | .deep _ k _ => List (ty k)
  | .mpb _ _ => List (Vert × Bool)
  | .mpi _ _ => List (Vert × Int)
  | .lsl _ _ _ => Lsa
  | .lsr _ _ _ => Lsa
def cellsOf : AV → List C
  | .v (.c x) => [x]
  | .v (.agg cs) => cs
  | _ => []
def HK.sl : (h : HK) → h.T → Nat × AV
  | .av i a, x => (i, a.enc x)
  | .row i k b, _ => (i, .v (.c (.own b)))
  | .box i b _ _, _ => (i, .v (.c (.ptr b 0)))
  | .tm i b _ _ _ _ _, _ => (i, .v (.c (.ptr b 0)))
  | .deep i _ b, _ => (i, .v (.c (.own b)))
  | .mpb i b, _ => (i, .v (.c (.mp b)))
  | .mpi i b, _ => (i, .v (.c (.mp b)))
  | .lsl i b _, _ => (i, .v (.c (.ptr b 0)))
  | .lsr i b _, _ => (i, .v (.c (.ptr b 0)))
def HK.bk : (h : HK) → h.T → List (Nat × Blk)
  | .av _ _, _ => []
  | .row _ k b, x => [(b, .arr k x)]
  | .box _ b a t, x => [(b, .box (cellsOf (a.enc x)) t)]
  | .deep _ k b, x => [(b, .deep k x none)]
  | .mpb _ b, x => [(b, .mpb x)]
  | .mpi _ b, x => [(b, .mpi x)]
  | .lsl _ b b0, (x : Lsa) => [(b, .box [i64 x.head.age, i64 x.head.kind, i64 x.head.id, i64 x.head.adv, i64 x.head.seq, i64 x.head.sum, i64 x.head.len, i64 x.flags, .own b0, i64 x.bits, nilsl, nilsl] 48), (b0, .arr .link x.links)]
  | .lsr _ b b0, (x : Lsa) => [(b, .box [i64 x.head.age, i64 x.head.kind, i64 x.head.id, i64 x.head.adv, i64 x.head.seq, i64 x.head.sum, i64 x.head.len, i64 x.flags, nilsl, i64 x.bits, .own b0, nilsl] 48), (b0, .arr .int x.routers)]
  | .tm _ b b0 b1 b2 b3 b4, (x : TMap) => [(b, .box [.own b0, .own b1, .own b2, .own b3, .own b4] 30), (b0, .arr .vert x.verts), (b1, .arr .edge x.edges), (b2, .arr .stub x.stubs), (b3, .arr .span x.spans), (b4, .arr .int x.wilds)]
abbrev HT : List HK → Type
  | [] => Unit
  | h :: l => h.T × HT l
def encS : (l : List HK) → HT l → List (Nat × AV)
  | [], _ => []
  | h :: l, (x, y) => h.sl x :: encS l y
def encB : (l : List HK) → HT l → List (Nat × Blk)
  | [], _ => []
  | h :: l, (x, y) => h.bk x ++ encB l y
def encH (l : List HK) (v : HT l) : St := ⟨encS l v, encB l v⟩
/-- Where a variable of the kind holds slices. -/
def nilPos : AK → List (Nat × K)
  | .lsa => [(8, .link), (10, .int), (11, .vert)]
  | .tmap => [(0, .vert), (1, .edge), (2, .stub), (3, .span), (4, .int)]
  | .port => [(9, .near), (10, .int)]
  | _ => []
def nilC (k : K) : C → C
  | .val (.slice none 0 0) => .sl k []
  | c => c
def nilAt (k : K) : Nat → List C → List C
  | _, [] => []
  | 0, c :: l => nilC k c :: l
  | n + 1, c :: l => c :: nilAt k n l
def nilCs : List (Nat × K) → List C → List C
  | [], cs => cs
  | p :: l, cs => nilCs l (nilAt p.2 p.1 cs)
/-- The cell p of a variable, where it is nil, taken for a row of one's own under the name n. -/
def ownCell (b p : Nat) (k : K) (n : Nat) (st : St) : St :=
  match look st.b b with
  | some (.box cs t) => match cs[p]? with
    | some (.val (.slice none 0 0)) => bif fresh0 st n && !(Nat.beq n b) then ⟨st.s, put (put st.b b (.box (cs.set p (.own n)) t)) n (.arr k [])⟩ else st
    | _ => st
  | _ => st
/-- nil taken for a row. -/
def nilOne (st : St) : HK → St
  | .row i k b => match look st.s i with
    | some (.v (.c (.val (.slice none 0 0)))) => bif fresh0 st b then ⟨put st.s i (.v (.c (.own b))), put st.b b (.arr k [])⟩ else st
    | _ => st
  | .box i b a t => match look st.b b with
    | some (.box cs t') => ⟨st.s, put st.b b (.box (nilCs (nilPos a) cs) t')⟩
    | _ => st
  | .tm i b b0 b1 b2 b3 b4 => ownCell b 4 .int b4 (ownCell b 3 .span b3 (ownCell b 2 .stub b2 (ownCell b 1 .edge b1 (ownCell b 0 .vert b0 st))))
  | .deep i k b => match look st.s i with
    | some (.v (.c (.val (.slice none 0 0)))) => bif fresh0 st b then ⟨put st.s i (.v (.c (.own b))), put st.b b (.deep k [] none)⟩ else st
    | _ => st
  | .lsl i b b0 => ownCell b 8 .link b0 st
  | .lsr i b b0 => ownCell b 10 .int b0 st
  | _ => st
def nilAll : List HK → St → St
  | [], st => st
  | h :: l, st => nilAll l (nilOne st h)
def arrX (k : K) : Blk → Option (List (ty k))
  | .arr k' xs => if h : k'.no = k.no then some ((elemsOf.K.no_inj h) ▸ xs) else none
  | _ => none
theorem arrX_r {k : K} {b : Blk} {xs : List (ty k)} (h : arrX k b = some xs) : b = .arr k xs := by
  unfold arrX at h
  split at h
  · split at h
    · rename_i hno
      obtain rfl := elemsOf.K.no_inj hno
      obtain rfl := Option.some.inj h
      rfl
    · cases h
  · cases h
/-- A variable's cells as a value of the kind. -/
def AK.aggLike : AK → Bool
  | .int | .bool | .u8 | .sl _ | .ik _ => false
  | _ => true
def boxX (a : AK) (t : TypeId) : Blk → Option a.T
  | .box cs t' => bif Nat.beq t' t then (bif a.aggLike then a.dec (.v (.agg cs)) else match cs with
    | [c] => a.dec (.v (.c c))
    | _ => none) else none
  | _ => none
theorem boxX_r {a : AK} {t : TypeId} {b : Blk} {x : a.T} (h : boxX a t b = some x) : b = .box (cellsOf (a.enc x)) t := by
  unfold boxX at h
  split at h
  · rename_i cs t'
    cases ht : Nat.beq t' t with
    | false => rw [ht] at h; cases h
    | true =>
      rw [ht, cond_true] at h
      rw [Nat.eq_of_beq_eq_true ht]
      cases ha : a.aggLike with
      | true => rw [ha, cond_true] at h; rw [← AK.dec_r h]; rfl
      | false =>
        rw [ha, cond_false] at h
        split at h
        · rw [← AK.dec_r h]; rfl
        · cases h
  · cases h
def deepX (k : K) : Blk → Option (List (ty k))
  | .deep k' xs none => if h : k'.no = k.no then some ((elemsOf.K.no_inj h) ▸ xs) else none
  | _ => none
theorem deepX_r {k : K} {b : Blk} {xs : List (ty k)} (h : deepX k b = some xs) : b = .deep k xs none := by
  unfold deepX at h
  split at h
  · split at h
    · rename_i hno
      obtain rfl := elemsOf.K.no_inj hno
      obtain rfl := Option.some.inj h
      rfl
    · cases h
  · cases h
def mpbX : Blk → Option (List (Vert × Bool))
  | .mpb kv => some kv
  | _ => none
def mpiX : Blk → Option (List (Vert × Int))
  | .mpi kv => some kv
  | _ => none
theorem mpbX_r {b : Blk} {kv : List (Vert × Bool)} (h : mpbX b = some kv) : b = .mpb kv := by
  unfold mpbX at h
  split at h
  · obtain rfl := Option.some.inj h; rfl
  · cases h
theorem mpiX_r {b : Blk} {kv : List (Vert × Int)} (h : mpiX b = some kv) : b = .mpi kv := by
  unfold mpiX at h
  split at h
  · obtain rfl := Option.some.inj h; rfl
  · cases h
def tmX : Blk → Option (List Nat)
  | .box [.own b0, .own b1, .own b2, .own b3, .own b4] t => bif Nat.beq t 30 then some [b0, b1, b2, b3, b4] else none
  | _ => none
theorem tmX_r {b : Blk} {ns : List Nat} (h : tmX b = some ns) : ∃ b0 b1 b2 b3 b4, ns = [b0, b1, b2, b3, b4] ∧ b = .box [.own b0, .own b1, .own b2, .own b3, .own b4] 30 := by
  unfold tmX at h
  split at h
  · rename_i b0 b1 b2 b3 b4 t
    cases ht : Nat.beq t 30 with
    | false => rw [ht] at h; cases h
    | true =>
      rw [ht, cond_true] at h
      obtain rfl := Option.some.inj h
      exact ⟨b0, b1, b2, b3, b4, rfl, by rw [Nat.eq_of_beq_eq_true ht]⟩
  · cases h
def arrAt (st : St) (k : K) (b b' : Nat) : Option (List (ty k)) := bif Nat.beq b b' then match look st.b b with
  | some bl => arrX k bl
  | none => none
  else none
theorem arrAt_r {st : St} {k : K} {b b' : Nat} {xs : List (ty k)} (h : arrAt st k b b' = some xs) : b = b' ∧ look st.b b = some (.arr k xs) := by
  unfold arrAt at h
  cases hb : Nat.beq b b' with
  | false => rw [hb] at h; cases h
  | true =>
    rw [hb, cond_true] at h
    split at h
    · rename_i bl hl
      exact ⟨Nat.eq_of_beq_eq_true hb, by rw [hl, arrX_r h]⟩
    · cases h
def lslX (st : St) (b0 : Nat) : Blk → Option Lsa
  | .box [c0, c1, c2, c3, c4, c5, c6, c7, .own n0, c9, .val (.slice none 0 0), .val (.slice none 0 0)] t => bif Nat.beq t 48 then match arrAt st .link b0 n0 with
    | some xs => lsaX [c0, c1, c2, c3, c4, c5, c6, c7, .sl .link xs, c9, .sl .int [], .sl .vert []]
    | none => none
    else none
  | _ => none
def lsrX (st : St) (b0 : Nat) : Blk → Option Lsa
  | .box [c0, c1, c2, c3, c4, c5, c6, c7, .val (.slice none 0 0), c9, .own n0, .val (.slice none 0 0)] t => bif Nat.beq t 48 then match arrAt st .int b0 n0 with
    | some xs => lsaX [c0, c1, c2, c3, c4, c5, c6, c7, .sl .link [], c9, .sl .int xs, .sl .vert []]
    | none => none
    else none
  | _ => none
theorem lsaX_cells {cs : List C} {x : Lsa} (h : lsaX cs = some x) : cs = cells .lsa x := by
  have : AV.v (.agg cs) = AK.enc .lsa x := AK.dec_r (a := .lsa) (x := .v (.agg cs)) (t := x) h
  cases this
  rfl
theorem lslX_r {st : St} {b0 : Nat} {bl : Blk} {x : Lsa} (h : lslX st b0 bl = some x) : bl = .box [i64 x.head.age, i64 x.head.kind, i64 x.head.id, i64 x.head.adv, i64 x.head.seq, i64 x.head.sum, i64 x.head.len, i64 x.flags, .own b0, i64 x.bits, nilsl, nilsl] 48 ∧ look st.b b0 = some (.arr .link x.links) := by
  unfold lslX at h
  split at h
  · rename_i t
    cases ht : Nat.beq t 48 with
    | false => rw [ht] at h; cases h
    | true =>
      rw [ht, cond_true] at h
      split at h
      · rename_i xs hx
        have e := lsaX_cells h
        obtain ⟨rfl, h2⟩ := arrAt_r hx
        rw [Nat.eq_of_beq_eq_true ht]
        simp only [cells, Lsa.cells, List.cons.injEq, C.sl.injEq, heq_eq_eq, true_and, and_true] at e
        obtain ⟨rfl, rfl, rfl, rfl, rfl, rfl, rfl, rfl, e⟩ := e
        obtain ⟨rfl, rfl, _, _⟩ := e
        exact ⟨rfl, h2⟩
      · cases h
  · cases h
theorem lsrX_r {st : St} {b0 : Nat} {bl : Blk} {x : Lsa} (h : lsrX st b0 bl = some x) : bl = .box [i64 x.head.age, i64 x.head.kind, i64 x.head.id, i64 x.head.adv, i64 x.head.seq, i64 x.head.sum, i64 x.head.len, i64 x.flags, nilsl, i64 x.bits, .own b0, nilsl] 48 ∧ look st.b b0 = some (.arr .int x.routers) := by
  unfold lsrX at h
  split at h
  · rename_i t
    cases ht : Nat.beq t 48 with
    | false => rw [ht] at h; cases h
    | true =>
      rw [ht, cond_true] at h
      split at h
      · rename_i xs hx
        have e := lsaX_cells h
        obtain ⟨rfl, h2⟩ := arrAt_r hx
        rw [Nat.eq_of_beq_eq_true ht]
        simp only [cells, Lsa.cells, List.cons.injEq, C.sl.injEq, heq_eq_eq, true_and, and_true] at e
        obtain ⟨rfl, rfl, rfl, rfl, rfl, rfl, rfl, rfl, e⟩ := e
        obtain ⟨_, rfl, rfl, _⟩ := e
        exact ⟨rfl, h2⟩
      · cases h
  · cases h
def HK.dec (st : St) : (h : HK) → Option h.T
  | .av i a => match look st.s i with
    | some v => a.dec v
    | none => none
  | .row i k b => match look st.s i, look st.b b with
    | some (.v (.c (.own b'))), some bl => bif Nat.beq b' b then arrX k bl else none
    | _, _ => none
  | .box i b a t => match look st.s i, look st.b b with
    | some (.v (.c (.ptr b' 0))), some bl => bif Nat.beq b' b then boxX a t bl else none
    | _, _ => none
  | .tm i b b0 b1 b2 b3 b4 => match look st.s i, look st.b b with
    | some (.v (.c (.ptr b' 0))), some bl => bif Nat.beq b' b then match tmX bl with
      | some [n0, n1, n2, n3, n4] => match arrAt st .vert b0 n0, arrAt st .edge b1 n1, arrAt st .stub b2 n2, arrAt st .span b3 n3, arrAt st .int b4 n4 with
        | some vs, some es, some ss, some sp, some ws => some (⟨vs, es, ss, sp, ws⟩ : TMap)
        | _, _, _, _, _ => none
      | _ => none
      else none
    | _, _ => none
  | .deep i k b => match look st.s i, look st.b b with
    | some (.v (.c (.own b'))), some bl => bif Nat.beq b' b then deepX k bl else none
    | _, _ => none
  | .mpb i b => match look st.s i, look st.b b with
    | some (.v (.c (.mp b'))), some bl => bif Nat.beq b' b then mpbX bl else none
    | _, _ => none
  | .mpi i b => match look st.s i, look st.b b with
    | some (.v (.c (.mp b'))), some bl => bif Nat.beq b' b then mpiX bl else none
    | _, _ => none
  | .lsl i b b0 => match look st.s i, look st.b b with
    | some (.v (.c (.ptr b' 0))), some bl => bif Nat.beq b' b then lslX st b0 bl else none
    | _, _ => none
  | .lsr i b b0 => match look st.s i, look st.b b with
    | some (.v (.c (.ptr b' 0))), some bl => bif Nat.beq b' b then lsrX st b0 bl else none
    | _, _ => none
def decA (st : St) : (l : List HK) → Option (HT l)
  | [] => some ()
  | h :: l => match h.dec st, decA st l with
    | some x, some y => some (x, y)
    | _, _ => none
def decH (l : List HK) (st : St) : Option (HT l) := decA (nilAll l st) l
theorem HK.dec_r {st : St} {h : HK} {x : h.T} (hd : h.dec st = some x) : look st.s (h.sl x).1 = some (h.sl x).2 ∧ ∀ p, p ∈ h.bk x → look st.b p.1 = some p.2 := by
  cases h with
  | av i a =>
    simp only [HK.dec] at hd
    split at hd
    · rename_i v hv
      exact ⟨by rw [HK.sl, hv, AK.dec_r hd], fun p hp => by cases hp⟩
    · cases hd
  | row i k b =>
    simp only [HK.dec] at hd
    split at hd
    · rename_i b' bl h1 h2
      cases hb : Nat.beq b' b with
      | false => rw [hb] at hd; cases hd
      | true =>
        rw [hb, cond_true] at hd
        obtain rfl := Nat.eq_of_beq_eq_true hb
        refine ⟨h1, fun p hp => ?_⟩
        simp only [HK.bk, List.mem_singleton] at hp
        subst hp
        rw [h2, arrX_r hd]
    · cases hd
  | box i b a t =>
    simp only [HK.dec] at hd
    split at hd
    · rename_i b' bl h1 h2
      cases hb : Nat.beq b' b with
      | false => rw [hb] at hd; cases hd
      | true =>
        rw [hb, cond_true] at hd
        obtain rfl := Nat.eq_of_beq_eq_true hb
        refine ⟨h1, fun p hp => ?_⟩
        simp only [HK.bk, List.mem_singleton] at hp
        subst hp
        rw [h2, boxX_r hd]
    · cases hd
  | tm i b b0 b1 b2 b3 b4 =>
    simp only [HK.dec] at hd
    split at hd
    · rename_i b' bl h1 h2
      cases hb : Nat.beq b' b with
      | false => rw [hb] at hd; cases hd
      | true =>
        rw [hb, cond_true] at hd
        obtain rfl := Nat.eq_of_beq_eq_true hb
        split at hd
        · rename_i n0 n1 n2 n3 n4 htm
          split at hd
          · rename_i vs es ss sp ws e0 e1 e2 e3 e4
            obtain rfl := Option.some.inj hd
            obtain ⟨q0, q1, q2, q3, q4, q5, q6⟩ := tmX_r htm
            simp only [List.cons.injEq, and_true] at q5
            obtain ⟨rfl, rfl, rfl, rfl, rfl⟩ := q5
            obtain ⟨rfl, f0⟩ := arrAt_r e0
            obtain ⟨rfl, f1⟩ := arrAt_r e1
            obtain ⟨rfl, f2⟩ := arrAt_r e2
            obtain ⟨rfl, f3⟩ := arrAt_r e3
            obtain ⟨rfl, f4⟩ := arrAt_r e4
            refine ⟨h1, fun p hp => ?_⟩
            simp only [HK.bk, List.mem_cons, List.not_mem_nil, or_false] at hp
            rcases hp with rfl | rfl | rfl | rfl | rfl | rfl
            · rw [h2, q6]
            · exact f0
            · exact f1
            · exact f2
            · exact f3
            · exact f4
          · cases hd
        · cases hd
    · cases hd
  | deep i k b =>
    simp only [HK.dec] at hd
    split at hd
    · rename_i b' bl h1 h2
      cases hb : Nat.beq b' b with
      | false => rw [hb] at hd; cases hd
      | true =>
        rw [hb, cond_true] at hd
        obtain rfl := Nat.eq_of_beq_eq_true hb
        refine ⟨h1, fun p hp => ?_⟩
        simp only [HK.bk, List.mem_singleton] at hp
        subst hp
        rw [h2, deepX_r hd]
    · cases hd
  | mpb i b =>
    simp only [HK.dec] at hd
    split at hd
    · rename_i b' bl h1 h2
      cases hb : Nat.beq b' b with
      | false => rw [hb] at hd; cases hd
      | true =>
        rw [hb, cond_true] at hd
        obtain rfl := Nat.eq_of_beq_eq_true hb
        refine ⟨h1, fun p hp => ?_⟩
        simp only [HK.bk, List.mem_singleton] at hp
        subst hp
        rw [h2, mpbX_r hd]
    · cases hd
  | mpi i b =>
    simp only [HK.dec] at hd
    split at hd
    · rename_i b' bl h1 h2
      cases hb : Nat.beq b' b with
      | false => rw [hb] at hd; cases hd
      | true =>
        rw [hb, cond_true] at hd
        obtain rfl := Nat.eq_of_beq_eq_true hb
        refine ⟨h1, fun p hp => ?_⟩
        simp only [HK.bk, List.mem_singleton] at hp
        subst hp
        rw [h2, mpiX_r hd]
    · cases hd
  | lsl i b b0 =>
    simp only [HK.dec] at hd
    split at hd
    · rename_i b' bl h1 h2
      cases hb : Nat.beq b' b with
      | false => rw [hb] at hd; cases hd
      | true =>
        rw [hb, cond_true] at hd
        obtain rfl := Nat.eq_of_beq_eq_true hb
        obtain ⟨q1, q2⟩ := lslX_r hd
        refine ⟨h1, fun p hp => ?_⟩
        simp only [HK.bk, List.mem_cons, List.not_mem_nil, or_false] at hp
        rcases hp with rfl | rfl
        · rw [h2, q1]
        · exact q2
    · cases hd
  | lsr i b b0 =>
    simp only [HK.dec] at hd
    split at hd
    · rename_i b' bl h1 h2
      cases hb : Nat.beq b' b with
      | false => rw [hb] at hd; cases hd
      | true =>
        rw [hb, cond_true] at hd
        obtain rfl := Nat.eq_of_beq_eq_true hb
        obtain ⟨q1, q2⟩ := lsrX_r hd
        refine ⟨h1, fun p hp => ?_⟩
        simp only [HK.bk, List.mem_cons, List.not_mem_nil, or_false] at hp
        rcases hp with rfl | rfl
        · rw [h2, q1]
        · exact q2
    · cases hd
theorem decA_r {st : St} : ∀ {l : List HK} {v : HT l}, decA st l = some v → AllS (encS l v) st.s ∧ AllS (encB l v) st.b
  | [], v, h => ⟨trivial, trivial⟩
  | hk :: l, v, h => by
    simp only [decA] at h
    split at h
    · rename_i x y h1 h2
      obtain rfl := Option.some.inj h
      obtain ⟨q1, q2⟩ := HK.dec_r h1
      obtain ⟨q3, q4⟩ := decA_r h2
      refine ⟨⟨q1, q3⟩, ?_⟩
      change AllS (hk.bk x ++ encB l y) st.b
      generalize hk.bk x = ps at q2
      induction ps with
      | nil => exact q4
      | cons p ps ih => exact ⟨q2 p (by simp), ih fun p hp => q2 p (by simp [hp])⟩
    · cases h
section
variable {P : Program} {N : Nat} {c : Code} {st : St} {Q : Exit → St → Prop}
theorem nilC_r {R : RT} {w : World} {μ : Nat → Gh} {G : Nat → Prop} {k : K} {c : C} {v : Value} (h : CR w μ G c v) : CR w μ G (nilC k c) v := by
  unfold nilC
  split
  · cases h; exact .slnil
  · exact h
theorem nilAt_r {w : World} {μ : Nat → Gh} {G : Nat → Prop} {k : K} : ∀ {n : Nat} {cs : List C} {vs : List Value}, CsR w μ G cs vs → CsR w μ G (nilAt k n cs) vs
  | n, [], vs, h => by cases n <;> exact h
  | 0, c :: l, [], h => h
  | 0, c :: l, v :: vs, h => ⟨nilC_r (R := ⟨fun _ => False, w, fun _ => False⟩) h.1, h.2⟩
  | n + 1, c :: l, [], h => h
  | n + 1, c :: l, v :: vs, h => ⟨h.1, nilAt_r h.2⟩
theorem nilCs_r {w : World} {μ : Nat → Gh} {G : Nat → Prop} : ∀ {l : List (Nat × K)} {cs : List C} {vs : List Value}, CsR w μ G cs vs → CsR w μ G (nilCs l cs) vs
  | [], cs, vs, h => h
  | p :: l, cs, vs, h => nilCs_r (l := l) (nilAt_r h)
theorem EV.recell {b : Nat} {cs cs' : List C} {t : TypeId} (hl : look st.b b = some (.box cs t)) (hc : ∀ (w : World) (μ : Nat → Gh) (G : Nat → Prop) (vs : List Value), CsR w μ G cs vs → CsR w μ G cs' vs) (h : EV P N c ⟨st.s, put st.b b (.box cs' t)⟩ Q) : EV P N c st Q := by
  intro R w0 μ a w hr
  refine h R w0 μ a w ⟨hr.size, hr.dfr, hr.sl, ⟨fun n k hk => ?_, fun n hn => ?_, hr.mem.inj, hr.mem.below, hr.mem.res, hr.mem.fsz, hr.mem.frm⟩⟩
  · simp only [look_put] at hk
    by_cases e : n = b
    · rw [if_pos e] at hk
      obtain rfl := Option.some.inj hk
      subst e
      obtain ⟨B, vs, h1, h2, h3, h4⟩ := hr.mem.bl n _ hl
      exact ⟨B, vs, h1, h2, h3, hc _ _ _ _ h4⟩
    · rw [if_neg e] at hk; exact hr.mem.bl n k hk
  · simp only [look_put] at hn
    by_cases e : n = b
    · rw [if_pos e] at hn; cases hn
    · rw [if_neg e] at hn; exact hr.mem.dead n hn
theorem csr_set {w : World} {μ : Nat → Gh} {G : Nat → Prop} {x : C} : ∀ {p : Nat} {cs : List C} {vs : List Value}, CsR w μ G cs vs → (∀ v, vs[p]? = some v → CR w μ G x v) → CsR w μ G (cs.set p x) vs
  | p, [], vs, h, hx => by simpa using h
  | 0, c :: l, v :: vs, h, hx => ⟨hx v rfl, h.2⟩
  | p + 1, c :: l, v :: vs, h, hx => ⟨h.1, csr_set (p := p) h.2 (fun u hu => hx u (by simpa using hu))⟩
  | 0, c :: l, [], h, hx => h.elim
  | p + 1, c :: l, [], h, hx => h.elim
theorem EV.ownCell {b p n : Nat} {k : K} (h : EV P N c (Ytoknhjmcoleejaa.ownCell b p k n st) Q) : EV P N c st Q := by
  unfold Ytoknhjmcoleejaa.ownCell at h
  split at h
  · rename_i cs t hl
    split at h
    · rename_i hp
      cases hf : (fresh0 st n && !(Nat.beq n b)) with
      | false => rw [hf] at h; exact h
      | true =>
        rw [hf, cond_true] at h
        rw [Bool.and_eq_true] at hf
        obtain ⟨hf, hnb0⟩ := hf
        have hnb : n ≠ b := by intro e; rw [e, Nat.beq_refl] at hnb0; cases hnb0
        intro R w0 μ a w hr
        obtain ⟨hln, hns, hnk⟩ := fresh_r hr hf
        refine h R w0 (fun m => if m = n then nilG false else μ m) a w ⟨hr.size, hr.dfr, fun i x hx => ?_, mem_nil false hr hf (k := k) (by rw [look_put, if_pos rfl]; rfl) (fun m e => ⟨fun hm => ?_, fun kk hk => ?_⟩)⟩
        · obtain ⟨u, p1, p2⟩ := hr.sl i x hx
          exact ⟨u, p1, p2.mono (drop_cell (good_nil false)) fun m hm => by rw [if_neg (hns hx m hm)]⟩
        · rw [look_put, if_neg e, look_put] at hm
          by_cases e2 : m = b
          · rw [if_pos e2] at hm; cases hm
          · rw [if_neg e2] at hm; exact hm
        · rw [look_put, if_neg e, look_put] at hk
          by_cases e2 : m = b
          · rw [if_pos e2] at hk
            obtain rfl := Option.some.inj hk
            subst e2
            obtain ⟨B, vs, h1, h2, h3, h4⟩ := br_nil false hr hf e hl
            refine ⟨B, vs, h1, h2, h3, csr_set h4 (fun v hv => ?_)⟩
            obtain ⟨v', hv', hcr⟩ := h4.get hp
            rw [hv] at hv'
            obtain rfl := Option.some.inj hv'
            have hv0 : v = .slice none 0 0 := by cases hcr; rfl
            subst hv0
            exact .own (by rw [if_pos rfl]; rfl) ⟨_, _, _, rfl⟩
          · rw [if_neg e2] at hk; exact br_nil false hr hf e hk
    · exact h
  · exact h
theorem EV.nilOne {h : HK} (he : EV P N c (Ytoknhjmcoleejaa.nilOne st h) Q) : EV P N c st Q := by
  unfold Ytoknhjmcoleejaa.nilOne at he
  split at he
  · split at he
    · rename_i hi
      cases hf : fresh0 st _ with
      | false => rw [hf] at he; exact he
      | true =>
        rw [hf, cond_true] at he
        exact fun R w0 μ a w hr => he R w0 _ a w (srel_nilrow false hr hi hf)
    · exact he
  · split at he
    · rename_i hl
      exact EV.recell hl (fun _ _ _ _ h => nilCs_r h) he
    · exact he
  · exact EV.ownCell (EV.ownCell (EV.ownCell (EV.ownCell (EV.ownCell he))))
  · split at he
    · rename_i hi
      cases hf : fresh0 st _ with
      | false => rw [hf] at he; exact he
      | true =>
        rw [hf, cond_true] at he
        exact fun R w0 μ a w hr => he R w0 _ a w (srel_nilrow true hr hi hf)
    · exact he
  · exact EV.ownCell he
  · exact EV.ownCell he
  · exact he
theorem EV.nilAll : ∀ {l : List HK} {st : St}, EV P N c (Ytoknhjmcoleejaa.nilAll l st) Q → EV P N c st Q
  | [], st, h => h
  | hk :: l, st, h => EV.nilOne (EV.nilAll (l := l) h)
/-- At a state that is read as a head, the code may be taken from the head. -/
theorem EV.head {l : List HK} {v : HT l} (hd : decH l st = some v) (hc : closed (encH l v) = true) (h : EV P N c (encH l v) Q) : EV P N c st Q := by
  obtain ⟨h1, h2⟩ := decA_r hd
  exact EV.nilAll (l := l) (h.weak h1 h2 hc)
end
/-- A loop's contract: the head's slots, what must hold, where it ends. -/
def mkLS (l : List HK) (pre : HT l → List Bool) (res : HT l → LR) : LS := fun st => match decH l st with
  | some v => some (pre v, res v)
  | none => none
/-- What a round gives: at its end a head again, of which K; at its other ends Q. -/
def loopQ (l : List HK) (K : HT l → Prop) (Q : Exit → St → Prop) : Exit → St → Prop
  | .normal, st => match decH l st with
    | some v => K v
    | none => False
  | e, st => Q e st
/-- A loop by an invariant: a number that falls, a fact of the head's values. -/
theorem loop_ev {N : Nat} {l : List HK} {pre : HT l → List Bool} {res : HT l → LR} {sig : List (Nat × Summary)} {lcs : List (Nat × LS)} {lv : List (Nat × List Nat)} (c : Code) (hc : ∀ v, closed (encH l v) = true) (hsig : SigOK Try.prog sig)
    (hl : ∀ c', c' ∈ loopsOf c → ∀ lc, look lcs (headId c') = some lc → LoopOK Try.prog N c' lc)
    (h : ∀ v, (pre v).all id = true → ∃ (I : Nat → HT l → Prop) (n : Nat), I n v ∧ ∀ Q, (res v).q Q → ∀ n u, I n u → evC sig lcs N lv c (encH l u) (loopQ l (fun u' => ∃ n', n' < n ∧ I n' u') Q)) : LoopOK Try.prog N c (mkLS l pre res) := by
  intro st cs r hst hcs Q hq
  unfold mkLS at hst
  split at hst
  · rename_i v hv
    obtain ⟨rfl, rfl⟩ := Prod.mk.inj (Option.some.inj hst)
    obtain ⟨I, n, hi, hround⟩ := h v hcs
    refine EV.loop (fun n s => ∃ u, decH l s = some u ∧ I n u) ⟨v, hv, hi⟩ ?_
    rintro m s ⟨u, hu, him⟩
    refine EV.head hu (hc u) ((evC_snd try_tok hsig c _ _ hl (hround Q hq m u him)).mono fun e s' hq' => ?_)
    cases e with
    | normal =>
      simp only [loopQ] at hq'
      split at hq'
      · rename_i u' hu'
        obtain ⟨n', h1, h2⟩ := hq'
        exact ⟨n', h1, u', hu', h2⟩
      · exact hq'.elim
    | _ => exact hq'
  · cases hst
/-! ### a row that comes in, grows, and goes back -/
def mkSmG (k : K) (l : List AK) (pre : List (ty k) → ATs l → List Bool) (res : List (ty k) → ATs l → List (ty k)) : Summary := fun vs => match vs with
  | [] => none
  | v :: vs => match decS k v, decs l vs with
    | some xs, some x => some (pre xs x, .grow k (res xs x))
    | _, _ => none
def endG (rs : List ResultVar) (k : K) (ys : List (ty k)) : Exit → St → Prop
  | .normal, st => outR rs k st = some ys
  | .ret, st => outR rs k st = some ys
  | _, _ => False
def AK.flat : AK → Bool
  | .sl _ | .tmap | .lsa | .port | .rel _ | .fn1 _ _ | .fn0 _ => false
  | _ => true
theorem enc_noSl {a : AK} (h : a.flat = true) (x : a.T) : noSl (a.enc x) = true := by
  cases a <;> first | rfl | cases h
theorem encs_noSl : ∀ {l : List AK} (h : l.all AK.flat = true) (x : ATs l), ∀ y, y ∈ encs l x → noSl y = true
  | [], _, x, y, hy => by cases hy
  | a :: l, h, (x, xs), y, hy => by
    simp only [List.all_cons, Bool.and_eq_true] at h
    change y ∈ a.enc x :: encs l xs at hy
    rcases List.mem_cons.1 hy with rfl | hy
    · exact enc_noSl h.1 x
    · exact encs_noSl h.2 xs y hy
section
variable {P : Program} {w w' : World} {N : Nat} {st : St} {a : Act}
theorem avs_noSl {μ μ' : Nat → Gh} {G G' : Nat → Prop} : ∀ {l : List AV} {us : List Value}, (∀ y, y ∈ l → noSl y = true) → AVsR w μ G l us → AVsR w μ' G' l us
  | [], [], _, _ => trivial
  | x :: l, u :: us, hn, h => ⟨noSl_avr (hn x (by simp)) h.1, avs_noSl (fun y hy => hn y (by simp [hy])) h.2⟩
  | [], _ :: _, _, h => h.elim
  | _ :: _, [], _, h => h.elim
/-- A row that came in as a slice: what it holds. -/
theorem row_in {base n0 : Nat} {k : K} {xs : List (ty k)} {u : Value} {vals : List Value} {G : Nat → Prop} (hf : flatK k = true) (h : CR w dg G (.sl k xs) u) (ho : w.ownsRow base (elemT k) (width k) u n0 vals) : n0 = xs.length ∧ ∀ μ G', CsR w μ G' (flatC k xs) vals := by
  have hcell : ∀ {A : Addr} {cap : Nat} (f : Nat → Value), u = .slice (some A) xs.length cap → (∀ i x, xs[i]? = some x → ∀ j c, (cells k x)[j]? = some c → w.cell? (A.add (i * width k + j)) = some (f (i * width k + j))) →
      (∀ i x, xs[i]? = some x → ∀ j c, (cells k x)[j]? = some c → CR w dg G c (f (i * width k + j))) → n0 = xs.length ∧ ∀ μ G', CsR w μ G' (flatC k xs) vals := by
    intro A cap f hu h1 h2
    rcases ho.2 with ⟨e, _⟩ | ⟨g, cap', cur, e, hrest⟩
    · rw [hu] at e; cases e
    · rw [hu] at e
      injection e with e1 e2 e3
      injection e1 with e1
      refine ⟨e2.symm, fun μ G' => CsR.of_get (by rw [flatC_length, ho.1, e2]) fun p c v hp hv => ?_⟩
      have hw := width_pos k
      have hlt : p < xs.length * width k := by
        have := (List.getElem?_eq_some_iff.1 hp).1
        rwa [flatC_length] at this
      have hi : p / width k < xs.length := by rw [Nat.div_lt_iff_lt_mul hw]; exact hlt
      have hget := flatC_get k xs (p / width k) (p % width k) _ (List.getElem?_eq_getElem hi) (Nat.mod_lt p hw)
      have hpp : p / width k * width k + p % width k = p := by rw [Nat.mul_comm]; exact Nat.div_add_mod p (width k)
      rw [hpp, hp] at hget
      have c1 := h1 _ _ (List.getElem?_eq_getElem hi) _ _ hget.symm
      have c2 := h2 _ _ (List.getElem?_eq_getElem hi) _ _ hget.symm
      rw [hpp] at c1 c2
      have c3 := ho.cells (g := g) (by rw [hu, e1]; rfl) p v hv
      rw [← e1, c1] at c3
      obtain rfl := Option.some.inj c3
      exact cr_noSl c2 (flatC_noSl hf xs c (List.mem_of_getElem? hp))
  cases h with
  | slnil =>
    rcases ho.2 with ⟨_, h2⟩ | ⟨g, cap, cur, h1, _⟩
    · subst h2
      refine ⟨rfl, fun μ G' => ?_⟩
      have : vals = [] := List.eq_nil_of_length_eq_zero (by have := ho.1; simpa using this)
      subst this
      exact trivial
    · cases h1
  | sl f hl hg h1 h2 => exact hcell f rfl h1 h2
theorem sum_grow {f : FuncId} (fn : Func) {k : K} {l : List AK} {pre : List (ty k) → ATs l → List Bool} {res : List (ty k) → ATs l → List (ty k)} {sig : List (Nat × Summary)} {lcs : List (Nat × LS)} {lv : List (Nat × List Nat)}
    (hf : Try.prog.funcs[f]? = some fn) (hck : ((fn.name == "runtime.NumGoroutine") = false ∧ fn.body = some (bodyOf fn) ∧ Nat.ble (l.length + 1) fn.ntmps = true)) (hsig : SigOK Try.prog sig)
    (hl : ∀ c', c' ∈ loopsOf (bodyOf fn) → ∀ lc, look lcs (headId c') = some lc → LoopOK Try.prog fn.ntmps c' lc) (hflat : flatK k = true) (hno : l.all AK.flat = true)
    (h : ∀ xs (x : ATs l), (pre xs x).all id = true → evC sig lcs fn.ntmps lv (bodyOf fn) ⟨(0, .v (.c (.own 0))) :: enum 1 (encs l x), [(0, .arr k xs)]⟩ (endG fn.results.toList k (res xs x))) : SumOK Try.prog f (mkSmG k l pre res) := by
  refine ⟨⟨fn, hf, hck.1, by rw [hck.2.1]; rfl⟩, fun w G vs us cs r ha hsm hcs => ?_⟩
  unfold mkSmG at hsm
  cases vs with
  | nil => cases hsm
  | cons v vs =>
    simp only at hsm
    split at hsm
    · rename_i xs x hx hxs
      obtain ⟨rfl, rfl⟩ := Prod.mk.inj (Option.some.inj hsm)
      have hv : v = .v (.c (.sl k xs)) := AK.dec_r (a := .sl k) (show AK.dec (.sl k) v = some xs from hx)
      obtain rfl := decs_r hxs
      subst hv
      intro base u0 us0 n0 vals0 hus hbase hown
      subst hus
      obtain ⟨hn0, hcsr⟩ := row_in hflat ha.1 hown
      subst hn0
      have hlen := avs_length ha.2
      have hlenE : ∀ (l : List AK) (x : ATs l), (encs l x).length = l.length := by
        intro l
        induction l with
        | nil => intro x; rfl
        | cons a l ih => intro x; obtain ⟨y, z⟩ := x; simp [encs, ih]
      have hN := Nat.le_of_ble_eq_true hck.2.2
      rw [hlenE] at hlen
      let w0 : World := { w with heap := w.heap.extract 0 base }
      have hw0 : w0.heap.size = base := by simp [w0]; omega
      let R : RT := ⟨fun _ => False, w, fun k => u0.ownBlock ≠ some k⟩
      let μ : Nat → Gh := fun n => if n = 0 then .row u0 else .dead
      have hμ : ∀ n B, (μ n).own B → n = 0 ∧ u0.ownBlock = some B := by
        intro n B hB
        by_cases e : n = 0
        · exact ⟨e, by simpa [μ, e, Gh.own] using hB⟩
        · simp [μ, e, Gh.own] at hB
      have hu0s : ∃ a n c, u0 = .slice a n c := by
        rcases hown.2 with ⟨h1, _⟩ | ⟨g, cap, cur, h1, _⟩
        · exact ⟨_, _, _, h1⟩
        · exact ⟨_, _, _, h1⟩
      have hmem : Mem R w0 μ [(0, .arr k xs)] w := by
        refine ⟨fun n kk hk => ?_, fun n hn => ?_, fun m n B h1 h2 => ?_, ⟨rfl, rfl, rfl, by rw [hw0]; exact hbase, fun q hq => ?_⟩, fun B hB => hB.elim, Nat.le_refl _, fun q _ hq => ⟨rfl, fun n hn => hq (hμ n q hn).2⟩⟩
        · simp only [look] at hk
          cases hb : Nat.beq 0 n with
          | false => rw [hb] at hk; cases hk
          | true =>
            rw [hb] at hk
            obtain rfl := Nat.eq_of_beq_eq_true hb
            obtain rfl := Option.some.inj hk
            exact ⟨u0, vals0, by simp [μ], by rw [hw0]; exact hown, hcsr _ _⟩
        · by_cases e : n = 0
          · subst e; simp [look] at hn
          · simp [μ, e]
        · rw [(hμ m B h1).1, (hμ n B h2).1]
        · rw [hw0] at hq
          simp [w0, Array.getElem?_extract, hq]
          intro hge
          have : min base w.heap.size ≤ q := hge
          omega
      have hs0 : SRel R w0 fn.ntmps μ ⟨(0, .v (.c (.own 0))) :: enum 1 (encs l x), [(0, .arr k xs)]⟩ { tmps := (u0 :: us0).toArray ++ Array.replicate (fn.ntmps - (u0 :: us0).toArray.size) undef, defers := [] } w := by
        refine ⟨by simp; omega, rfl, fun i y hl' => ?_, hmem⟩
        simp only [look] at hl'
        cases hb : Nat.beq 0 i with
        | true =>
          rw [hb] at hl'
          obtain rfl := Nat.eq_of_beq_eq_true hb
          obtain rfl := Option.some.inj hl'
          exact ⟨u0, by rw [Array.getElem?_append_left (by simp)]; simp, .own (by simp [μ, Gh.main]) hu0s⟩
        | false =>
          rw [hb] at hl'
          obtain ⟨h1, h2⟩ := look_enum hl'
          obtain ⟨u, h3, h4⟩ := avs_get ha.2 h2
          have hi : i - 1 < us0.length := (List.getElem?_eq_some_iff.1 h3).1
          refine ⟨u, ?_, noSl_avr (encs_noSl hno x y (List.mem_of_getElem? h2)) h4⟩
          rw [Array.getElem?_append_left (by simp; omega)]
          have : i = (i - 1) + 1 := by omega
          rw [this]
          simpa using h3
      refine calls_of_wp hf hck.2.1 (wp_mono (evC_snd try_tok hsig _ _ _ hl (h xs x hcs) R w0 μ _ w hs0) ?_)
      rintro e a' w' ⟨s, m, h1, h2⟩
      have key : outR fn.results.toList k s = some (res xs x) → a'.defers = [] ∧ ∃ v, (results fn a'.tmps).run Try.prog w' = .ok v w' ∧ ∃ u vals, Ending.returned v = .returned u ∧ w.grownBy w' u0.ownBlock ∧
          w'.ownsRow base (elemT k) (width k) u (res xs x).length vals ∧ (u.ownBlock = u0.ownBlock ∨ ∀ B, u.ownBlock = some B → w.heap.size ≤ B) ∧ CsR w' dg (fun _ => False) (flatC k (res xs x)) vals := by
        intro hout
        have hgr : w.grownBy w' u0.ownBlock := by
          refine ⟨h2.mem.below.os, h2.mem.below.tape, h2.mem.below.output, h2.mem.fsz, fun q hq hne => (h2.mem.frm q hq (fun e => hne e.symm)).1⟩
        refine ⟨h2.dfr, ?_⟩
        unfold outR at hout
        rw [hflat, cond_true] at hout
        split at hout
        · rename_i b hr
          split at hout
          · rename_i k' ys hb
            split at hout
            · rename_i hno'
              obtain rfl := elemsOf.K.no_inj hno'
              obtain rfl := Option.some.inj hout
              obtain ⟨vs, q1, q2, q3⟩ := resVs_run try_tok h2 hr
              cases vs with
              | nil => exact q2.elim
              | cons u vs =>
                cases vs with
                | cons _ _ => exact q2.2.elim
                | nil =>
                  obtain ⟨vals, p1, p2, p3, p4⟩ := row_shape (r := ⟨[], s.b⟩) h2.mem hb q2.1
                  refine ⟨u, results_run q1, u, vals, rfl, hgr, by rw [hw0] at p1; exact p1, ?_, csr_noSl p2 (flatC_noSl hflat _)⟩
                  by_cases hex : ∃ B, u.ownBlock = some B ∧ B < w.heap.size
                  · obtain ⟨B, e1, e2⟩ := hex
                    left
                    rw [e1]
                    exact Classical.byContradiction fun hne => (h2.mem.frm B e2 (fun e => hne e.symm)).2 b (by rw [p3]; exact e1)
                  · right
                    intro B hB
                    exact Nat.le_of_not_lt fun hlt => hex ⟨B, hB, hlt⟩
            · cases hout
          · cases hout
        · rename_i hr
          have hre := Option.some.inj hout
          obtain ⟨vs, q1, q2, q3⟩ := resVs_run try_tok h2 hr
          cases vs with
          | nil => exact q2.elim
          | cons u vs =>
            cases vs with
            | cons _ _ => exact q2.2.elim
            | nil =>
              have hu : u = .slice none 0 0 := by
                have := q2.1
                cases this
                rfl
              subst hu
              rw [← hre]
              exact ⟨_, results_run q1, _, [], rfl, hgr, ⟨by simp, .inl ⟨rfl, rfl⟩⟩, .inr (fun B hB => by simp [Value.ownBlock] at hB), trivial⟩
        · cases hout
      cases e with
      | normal => exact key h1
      | ret => exact key h1
      | _ => exact h1.elim
    · cases hsm
end
theorem nfto {A B : Prop} (b : B) (h : A = B) : A := h.mpr b
/-- One loop. -/
theorem one_loop {P : Program} {N : Nat} {c0 c : Code} {h : Nat} {lc : LS} (hl : (loopsOf c0, headId c) = ([c], h)) (hok : LoopOK P N c lc) : ∀ c', c' ∈ loopsOf c0 → ∀ lc', look [(h, lc)] (headId c') = some lc' → LoopOK P N c' lc' := by
  intro c' hc lc' hlc
  obtain ⟨h1, h2⟩ := Prod.mk.inj hl
  rw [h1, List.mem_singleton] at hc
  subst hc
  simp only [look, h2, Nat.beq_refl, cond_true, Option.some.injEq] at hlc
  subst hlc
  exact hok
end Go.Proofs.Ytoknhjmcoleejaa
