/- When the abstract state fits a world: the relation, and what keeps it. No condition. -/
import Derived.Test.YtoknhjmcoleejaaEB
import Derived.Maps.AppendAt
import Derived.Laws.OwnMore
import Derived.Laws.Rows
import Derived.Laws.IdiomCopy
import Derived.Deep.OwnRows
set_option linter.unusedVariables false
set_option linter.unusedSimpArgs false
namespace Go.Proofs.Ytoknhjmcoleejaa
open Go.RowKit

/-! ### lists by number -/
section
variable {α : Type}
theorem look_put (l : List (Nat × α)) (n : Nat) (x : α) (m : Nat) : look (put l n x) m = if m = n then some x else look l m := by
  induction l with
  | nil =>
    simp only [put, look]
    by_cases h : m = n
    · subst h; simp
    · have : Nat.beq n m = false := by cases hb : Nat.beq n m with | false => rfl | true => exact absurd (Nat.eq_of_beq_eq_true hb).symm h
      simp [this, h]
  | cons p l ih =>
    simp only [put]
    cases hb : Nat.beq p.1 n with
    | true =>
      have e := Nat.eq_of_beq_eq_true hb
      simp only [cond_true, look]
      by_cases h : m = n
      · subst h; simp
      · have : Nat.beq n m = false := by cases hb : Nat.beq n m with | false => rfl | true => exact absurd (Nat.eq_of_beq_eq_true hb).symm h
        simp [this, h, e]
    | false =>
      simp only [cond_false, look]
      cases hc : Nat.beq p.1 m with
      | true =>
        have e := Nat.eq_of_beq_eq_true hc
        have : m ≠ n := by intro h; subst h; rw [hc] at hb; cases hb
        simp [this]
      | false => simpa using ih
theorem look_del (l : List (Nat × α)) (n m : Nat) : look (del l n) m = if m = n then none else look l m := by
  induction l with
  | nil => simp [del, look]
  | cons p l ih =>
    simp only [del]
    cases hb : Nat.beq p.1 n with
    | true =>
      have e := Nat.eq_of_beq_eq_true hb
      simp only [cond_true, look, ih]
      by_cases h : m = n
      · simp [h]
      · have : Nat.beq p.1 m = false := by cases hb : Nat.beq p.1 m with | false => rfl | true => exact absurd ((Nat.eq_of_beq_eq_true hb).symm.trans e) h
        simp [h, this]
    | false =>
      simp only [cond_false, look, ih]
      cases hc : Nat.beq p.1 m with
      | true =>
        have e := Nat.eq_of_beq_eq_true hc
        have : m ≠ n := by intro h; subst h; rw [hc] at hb; cases hb
        simp [this]
      | false => simp
theorem look_mapV (f : α → α) (l : List (Nat × α)) (m : Nat) : look (mapV f l) m = (look l m).map f := by
  induction l with
  | nil => rfl
  | cons p l ih =>
    simp only [mapV, look]
    cases Nat.beq p.1 m <;> simp [ih]
theorem nmem_iff {n : Nat} {l : List Nat} : nmem n l = true ↔ n ∈ l := by
  induction l with
  | nil => simp [nmem]
  | cons m l ih =>
    simp only [nmem, List.mem_cons]
    cases hb : Nat.beq m n with
    | true => simp [Nat.eq_of_beq_eq_true hb]
    | false =>
      have : n ≠ m := by intro h; subst h; rw [Nat.beq_refl] at hb; cases hb
      simp [ih, this]
theorem look_filter (q : Nat → Bool) (l : List (Nat × α)) (m : Nat) : look (l.filter fun p => q p.1) m = if q m then look l m else none := by
  induction l with
  | nil => simp [look]
  | cons p l ih =>
    simp only [List.filter_cons]
    cases hb : Nat.beq p.1 m with
    | true =>
      have e := Nat.eq_of_beq_eq_true hb
      subst e
      cases hq : q p.1 with
      | true => simp [look]
      | false => simp [ih, hq]
    | false =>
      cases hq : q p.1 with
      | true => simp [look, hb, ih]
      | false => simp [ih, look, hb]
end
theorem beq_ne {a b : Nat} (h : Nat.beq a b = false) : a ≠ b := by intro e; subst e; rw [Nat.beq_refl] at h; cases h

/-! ### the ghost: what a block's name stands for -/
inductive Gh where
  | dead
  | box (B : Nat)
  | row (v : Value)
  /-- A row, and the rows that its elements own: by element and place. -/
  | deep (v : Value) (f : Nat → Nat → Value)
/-- But for what elements own. -/
def Gh.main : Gh → Gh
  | .deep v _ => .row v
  | g => g
/-- The blocks that are a name's own. -/
def Gh.own : Gh → Nat → Prop
  | .dead, _ => False
  | .box B', B => B = B'
  | .row v, B => v.ownBlock = some B
  | .deep v f, B => v.ownBlock = some B ∨ ∃ i j, (f i j).ownBlock = some B
theorem main_box {g : Gh} {B : Nat} (h : g.main = .box B) : g = .box B := by
  cases g <;> first | exact h | (cases h; done)
theorem main_row {g : Gh} {v : Value} (h : g.main = .row v) : g = .row v ∨ ∃ f, g = .deep v f := by
  cases g with
  | deep u f => right; cases h; exact ⟨f, rfl⟩
  | row u => exact .inl h
  | _ => cases h
def dg : Nat → Gh := fun _ => .dead

inductive CR (w : World) (μ : Nat → Gh) (G : Nat → Prop) : C → Value → Prop
  | undef (v : Value) (h : v.oneCell' = true) : CR w μ G .undef v
  | val (v : Value) (h : v.oneCell' = true) : CR w μ G (.val v) v
  | ptr {b off B : Nat} (h : μ b = .box B) : CR w μ G (.ptr b off) (.pointer (some ⟨B, off, none⟩))
  | elt {k : K} {b off B n c : Nat} {i : Int} (h : (μ b).main = .row (.slice (some ⟨B, 0, none⟩) n c)) : CR w μ G (.elt k b i off) (.pointer (some ⟨B, i.toNat * width k + off, none⟩))
  | rel {k : K} {x : ty k} {off : Nat} {A : Addr} (f : Nat → Value) (hg : G A.block) (h : ∀ j c, (cells k x)[j]? = some c → w.cell? (A.add j) = some (f j))
      (hc : ∀ j c, (cells k x)[j]? = some c → CR w μ G c (f j)) : CR w μ G (.rel k x off) (.pointer (some (A.add off)))
  | slnil {k : K} : CR w μ G (.sl k []) (.slice none 0 0)
  | sl {k : K} {xs : List (ty k)} {A : Addr} {cap : Nat} (f : Nat → Value) (hl : xs.length ≤ cap) (hg : xs ≠ [] → G A.block)
      (h : ∀ i x, xs[i]? = some x → ∀ j c, (cells k x)[j]? = some c → w.cell? (A.add (i * width k + j)) = some (f (i * width k + j)))
      (hc : ∀ i x, xs[i]? = some x → ∀ j c, (cells k x)[j]? = some c → CR w μ G c (f (i * width k + j))) : CR w μ G (.sl k xs) (.slice (some A) xs.length cap)
  | own {b : Nat} {v : Value} (h : (μ b).main = .row v) (hs : ∃ a n c, v = .slice a n c) : CR w μ G (.own b) v
  | mp {b B : Nat} (h : μ b = .box B) : CR w μ G (.mp b) (.map (some B))

theorem cells_noref (k : K) (x : ty k) {c : C} (h : c ∈ cells k x) : refC c = [] := by
  have : (cells k x).all (fun c => isNil (refC c)) = true := by cases k <;> rfl
  have := List.all_eq_true.1 this c h
  cases hc : refC c with
  | nil => rfl
  | cons a l => rw [hc] at this; cases this
theorem CR.one {w : World} {μ : Nat → Gh} {G : Nat → Prop} {c : C} {v : Value} (h : CR w μ G c v) : v.oneCell' = true := by
  cases h with
  | undef _ h => exact h
  | val _ h => exact h
  | own _ hs => obtain ⟨a, n, c, rfl⟩ := hs; rfl
  | _ => rfl

/-- The world grows, the ghost turns elsewhere. -/
theorem CR.mono {w w' : World} {μ μ' : Nat → Gh} {G G' : Nat → Prop} (hw : ∀ a v, G a.block → w.cell? a = some v → w'.cell? a = some v ∧ G' a.block)
    {c : C} {v : Value} (h : CR w μ G c v) : (∀ b, b ∈ refC c → (μ' b).main = (μ b).main) → CR w' μ' G' c v := by
  induction h with
  | undef v h => exact fun _ => .undef v h
  | val v h => exact fun _ => .val v h
  | ptr h => exact fun hm => .ptr (main_box (by rw [hm _ (by simp [refC]), h]; rfl))
  | elt h => exact fun hm => .elt (by rw [hm _ (by simp [refC]), h])
  | @rel k x off A f hg h hc ih =>
    intro _
    have hA : G' A.block := by
      have h0 : ∃ c, (cells k x)[0]? = some c := ⟨(cells k x)[0]'(by rw [cells_length]; exact width_pos k), List.getElem?_eq_getElem _⟩
      obtain ⟨c, hc0⟩ := h0
      have := (hw (A.add 0) _ (by simpa [Addr.add] using hg) (h 0 c hc0)).2
      simpa [Addr.add] using this
    refine .rel f hA (fun j c hj => ?_) (fun j c hj => ih j c hj (fun b hb => ?_))
    · refine (hw _ _ ?_ (h j c hj)).1
      unfold Addr.add; split <;> exact hg
    · rw [cells_noref k x (List.mem_of_getElem? hj)] at hb; cases hb
  | slnil => exact fun _ => .slnil
  | @sl k xs A cap f hl hg h hc ih =>
    intro _
    have hb : ∀ n, (A.add n).block = A.block := by intro n; unfold Addr.add; split <;> rfl
    refine .sl f hl (fun hne => ?_) (fun i x hi j c hj => ?_) (fun i x hi j c hj => ih i x hi j c hj (fun b hb => ?_))
    · obtain ⟨x, l, rfl⟩ := List.exists_cons_of_ne_nil hne
      have hc0 : (cells k x)[0]? = some ((cells k x)[0]'(by rw [cells_length]; exact width_pos k)) := List.getElem?_eq_getElem _
      have := (hw _ _ (by rw [hb]; exact hg hne) (h 0 x rfl 0 _ hc0)).2
      rwa [hb] at this
    · refine (hw _ _ ?_ (h i x hi j c hj)).1
      rw [hb]; exact hg (by intro e; subst e; simp at hi)
    · rw [cells_noref k x (List.mem_of_getElem? hj)] at hb; cases hb
  | own h hs => exact fun hm => .own (by rw [hm _ (by simp [refC]), h]) hs
  | mp h => exact fun hm => .mp (main_box (by rw [hm _ (by simp [refC]), h]; rfl))

/-! ### rows of cells -/
def CsR (w : World) (μ : Nat → Gh) (G : Nat → Prop) : List C → List Value → Prop
  | [], [] => True
  | c :: cs, v :: vs => CR w μ G c v ∧ CsR w μ G cs vs
  | _, _ => False
section
variable {w w' : World} {μ μ' : Nat → Gh} {G G' : Nat → Prop}
theorem CsR.length : ∀ {cs : List C} {vs : List Value}, CsR w μ G cs vs → cs.length = vs.length
  | [], [], _ => rfl
  | c :: cs, v :: vs, h => by simp [CsR.length h.2]
  | [], _ :: _, h => h.elim
  | _ :: _, [], h => h.elim
theorem CsR.get : ∀ {cs : List C} {vs : List Value} {i : Nat} {c : C}, CsR w μ G cs vs → cs[i]? = some c → ∃ v, vs[i]? = some v ∧ CR w μ G c v
  | [], [], i, c, h, hi => by simp at hi
  | c' :: cs, v :: vs, 0, c, h, hi => ⟨v, rfl, by simp at hi; subst hi; exact h.1⟩
  | c' :: cs, v :: vs, i + 1, c, h, hi => by
    simp at hi
    obtain ⟨u, hu, hc⟩ := CsR.get h.2 hi
    exact ⟨u, by simpa using hu, hc⟩
  | [], _ :: _, _, _, h, _ => h.elim
  | _ :: _, [], _, _, h, _ => h.elim
theorem CsR.of_get : ∀ {cs : List C} {vs : List Value}, cs.length = vs.length → (∀ (i : Nat) (c : C) (v : Value), cs[i]? = some c → vs[i]? = some v → CR w μ G c v) → CsR w μ G cs vs
  | [], [], _, _ => trivial
  | c :: cs, v :: vs, hl, h => ⟨h 0 c v rfl rfl, CsR.of_get (by simpa using hl) fun i c v hc hv => h (i + 1) c v (by simpa using hc) (by simpa using hv)⟩
  | [], _ :: _, hl, _ => by simp at hl
  | _ :: _, [], hl, _ => by simp at hl
theorem CsR.append : ∀ {cs ds : List C} {vs us : List Value}, CsR w μ G cs vs → CsR w μ G ds us → CsR w μ G (cs ++ ds) (vs ++ us)
  | [], _, [], _, _, h => h
  | c :: cs, ds, v :: vs, us, h, k => ⟨h.1, CsR.append h.2 k⟩
  | [], _, _ :: _, _, h, _ => h.elim
  | _ :: _, _, [], _, h, _ => h.elim
theorem CsR.take : ∀ {cs : List C} {vs : List Value} (n : Nat), CsR w μ G cs vs → CsR w μ G (cs.take n) (vs.take n)
  | [], [], n, _ => by simp [CsR]
  | c :: cs, v :: vs, 0, h => by simp [CsR]
  | c :: cs, v :: vs, n + 1, h => ⟨h.1, CsR.take n h.2⟩
  | [], _ :: _, _, h => h.elim
  | _ :: _, [], _, h => h.elim
theorem CsR.drop : ∀ {cs : List C} {vs : List Value} (n : Nat), CsR w μ G cs vs → CsR w μ G (cs.drop n) (vs.drop n)
  | [], [], n, _ => by simp [CsR]
  | c :: cs, v :: vs, 0, h => h
  | c :: cs, v :: vs, n + 1, h => CsR.drop n h.2
  | [], _ :: _, _, h => h.elim
  | _ :: _, [], _, h => h.elim
theorem CsR.mono (hw : ∀ a v, G a.block → w.cell? a = some v → w'.cell? a = some v ∧ G' a.block) : ∀ {cs : List C} {vs : List Value}, CsR w μ G cs vs → (∀ b, b ∈ refCs cs → (μ' b).main = (μ b).main) → CsR w' μ' G' cs vs
  | [], [], _, _ => trivial
  | c :: cs, v :: vs, h, hm => ⟨h.1.mono hw fun b hb => hm b (by simp [refCs]; exact .inl hb), CsR.mono hw h.2 fun b hb => hm b (by simp only [refCs, List.flatMap_cons, List.mem_append]; exact .inr hb)⟩
  | [], _ :: _, h, _ => h.elim
  | _ :: _, [], h, _ => h.elim
theorem CsR.one : ∀ {cs : List C} {vs : List Value}, CsR w μ G cs vs → ∀ v ∈ vs, v.oneCell' = true
  | [], [], _ => by simp
  | c :: cs, v :: vs, h => by
    intro u hu
    rcases List.mem_cons.1 hu with rfl | hu
    · exact h.1.one
    · exact CsR.one h.2 u hu
  | [], _ :: _, h => h.elim
  | _ :: _, [], h => h.elim
end

/-! ### values -/
section
variable (w : World) (μ : Nat → Gh) (G : Nat → Prop)
def V1R : V1 → Value → Prop
  | .c x, v => CR w μ G x v
  | .agg cs, v => ∃ vs : Array Value, v = .agg vs ∧ CsR w μ G cs vs.toList
def V1sR : List V1 → List Value → Prop
  | [], [] => True
  | x :: xs, v :: vs => V1R w μ G x v ∧ V1sR xs vs
  | _, _ => False
def AVR : AV → Value → Prop
  | .v x, u => V1R w μ G x u
  | .tup l, u => ∃ us : Array Value, u = .tuple us ∧ V1sR w μ G l us.toList
  | .fn f l, u => ∃ us : Array Value, u = .func (.func f) #[] us ∧ V1sR w μ G l us.toList
end
section
variable {w w' : World} {μ μ' : Nat → Gh} {G G' : Nat → Prop}
theorem V1R.mono (hw : ∀ a v, G a.block → w.cell? a = some v → w'.cell? a = some v ∧ G' a.block) {x : V1} {v : Value} (h : V1R w μ G x v) (hm : ∀ b, b ∈ refV1 x → (μ' b).main = (μ b).main) : V1R w' μ' G' x v := by
  cases x with
  | c x => exact CR.mono hw h hm
  | agg cs => obtain ⟨vs, rfl, hc⟩ := h; exact ⟨vs, rfl, hc.mono hw hm⟩
theorem V1sR.mono (hw : ∀ a v, G a.block → w.cell? a = some v → w'.cell? a = some v ∧ G' a.block) : ∀ {l : List V1} {vs : List Value}, V1sR w μ G l vs → (∀ b, b ∈ l.flatMap refV1 → (μ' b).main = (μ b).main) → V1sR w' μ' G' l vs
  | [], [], _, _ => trivial
  | x :: l, v :: vs, h, hm => ⟨h.1.mono hw fun b hb => hm b (by simp only [List.flatMap_cons, List.mem_append]; exact .inl hb), V1sR.mono hw h.2 fun b hb => hm b (by simp only [List.flatMap_cons, List.mem_append]; exact .inr hb)⟩
  | [], _ :: _, h, _ => h.elim
  | _ :: _, [], h, _ => h.elim
theorem AVR.mono (hw : ∀ a v, G a.block → w.cell? a = some v → w'.cell? a = some v ∧ G' a.block) {x : AV} {v : Value} (h : AVR w μ G x v) (hm : ∀ b, b ∈ refAV x → (μ' b).main = (μ b).main) : AVR w' μ' G' x v := by
  cases x with
  | v x => exact V1R.mono hw h hm
  | tup l => obtain ⟨us, rfl, hc⟩ := h; exact ⟨us, rfl, hc.mono hw hm⟩
  | fn f l => obtain ⟨us, rfl, hc⟩ := h; exact ⟨us, rfl, hc.mono hw hm⟩
theorem V1sR.length : ∀ {cs : List V1} {vs : List Value}, V1sR w μ G cs vs → cs.length = vs.length
  | [], [], _ => rfl
  | c :: cs, v :: vs, h => by simp [V1sR.length h.2]
  | [], _ :: _, h => h.elim
  | _ :: _, [], h => h.elim
theorem V1sR.get : ∀ {cs : List V1} {vs : List Value} {i : Nat} {c : V1}, V1sR w μ G cs vs → cs[i]? = some c → ∃ v, vs[i]? = some v ∧ V1R w μ G c v
  | [], [], i, c, h, hi => by simp at hi
  | c' :: cs, v :: vs, 0, c, h, hi => ⟨v, rfl, by simp at hi; subst hi; exact h.1⟩
  | c' :: cs, v :: vs, i + 1, c, h, hi => by
    simp at hi
    obtain ⟨u, hu, hc⟩ := V1sR.get h.2 hi
    exact ⟨u, by simpa using hu, hc⟩
  | [], _ :: _, _, _, h, _ => h.elim
  | _ :: _, [], _, _, h, _ => h.elim
theorem V1R.cs {x : V1} {v : Value} (h : V1R w μ G x v) : CsR w μ G x.cs v.cells.toList := by
  cases x with
  | c x =>
    have h' : CR w μ G x v := h
    have h1 := h'.one
    have : v.cells = #[v] := by cases v <;> first | rfl | (simp [Value.oneCell'] at h1)
    rw [this]
    exact ⟨h', trivial⟩
  | agg cs => obtain ⟨vs, rfl, hc⟩ := h; exact hc
end

/-! ### blocks, the whole relation -/
def flatC (k : K) (xs : List (ty k)) : List C := xs.flatMap (cells k)
/-- What a run may not lean on (p), and what it leaves as it is (keep, as in the world fw). -/
structure RT where
  p : Nat → Prop
  fw : World
  keep : Nat → Prop
def Good (R : RT) (μ : Nat → Gh) (B : Nat) : Prop := ¬ R.p B ∧ ∀ b, ¬ (μ b).own B
def flatK : K → Bool
  | .lsa => false
  | .port => false
  | _ => true
def HoleAt (h : Option (Int × Nat)) (i j : Nat) : Prop := ∃ p, h = some p ∧ p.1.toNat = i ∧ p.2 = j
/-- A cell of a row whose elements own rows. -/
def DC (w : World) (base : Nat) (f : Nat → Nat → Value) (hole : Option (Int × Nat)) (i j : Nat) : C → Value → Prop
  | .sl k ys, u => u.oneCell' = true ∧ (HoleAt hole i j → (f i j).ownBlock = none) ∧ (¬ HoleAt hole i j → u = f i j ∧ flatK k = true ∧ ∃ lv, w.ownsRow base (elemT k) (width k) u ys.length lv ∧ CsR w dg (fun _ => False) (flatC k ys) lv)
  | .val v, u => u = v ∧ v.oneCell' = true
  | _, _ => False
structure DeepOK (base : Nat) (w : World) (k : K) (xs : List (ty k)) (hole : Option (Int × Nat)) (v : Value) (f : Nat → Nat → Value) (vals : List Value) : Prop where
  row : w.ownsRow base (elemT k) (width k) v xs.length vals
  lo : ∀ i j B, (f i j).ownBlock = some B → base ≤ B ∧ B < w.heap.size
  inj : ∀ i j i' j' B, (f i j).ownBlock = some B → (f i' j').ownBlock = some B → i = i' ∧ j = j'
  apart : ∀ i j B, (f i j).ownBlock = some B → v.ownBlock ≠ some B
  cell : ∀ i x, xs[i]? = some x → ∀ j c, (cells k x)[j]? = some c → ∃ u, vals[i * width k + j]? = some u ∧ DC w base f hole i j c u
def vertV (v : Vert) : Value := .agg #[.int .i64 v.kind, .int .i64 v.id]
def BR (R : RT) (base : Nat) (w : World) (μ : Nat → Gh) (b : Nat) : Blk → Prop
  | .box cs t => ∃ B vs, μ b = .box B ∧ base ≤ B ∧ w.heap[B]? = some (.cells vs t (0, 0)) ∧ CsR w μ (Good R μ) cs vs.toList
  | .arr k xs => ∃ v vals, μ b = .row v ∧ w.ownsRow base (elemT k) (width k) v xs.length vals ∧ CsR w μ (Good R μ) (flatC k xs) vals
  | .mpb kv => ∃ B es clk, μ b = .box B ∧ base ≤ B ∧ w.heap[B]? = some (.map es clk) ∧ es.toList.map (fun e => (e.key, e.val)) = kv.map (fun p => (vertV p.1, Value.bool p.2))
  | .mpi kv => ∃ B es clk, μ b = .box B ∧ base ≤ B ∧ w.heap[B]? = some (.map es clk) ∧ es.toList.map (fun e => (e.key, e.val)) = kv.map (fun p => (vertV p.1, Value.int .i64 p.2))
  | .lit k css => ∃ v vals, μ b = .row v ∧ w.ownsRow base (elemT k) (width k) v css.length vals ∧ CsR w μ (Good R μ) (css.flatMap id) vals ∧ ∀ cs, cs ∈ css → cs.length = width k
  | .deep k xs hole => ∃ v f vals, μ b = .deep v f ∧ DeepOK base w k xs hole v f vals

/-- A slot under a tag. -/
def TR (R : RT) (ops : Array Oper) (tmps : Array Value) (w : World) (μ : Nat → Gh) : Tag → AV → Value → Prop
  | none, x, u => AVR w μ (Good R μ) x u
  | some (j, t), x, u => (yielded ops tmps j = some t ∧ AVR w μ (Good R μ) x u) ∨ (yielded ops tmps j ≠ some t ∧ u = undef)

structure Mem (R : RT) (w0 : World) (μ : Nat → Gh) (b : List (Nat × Blk)) (w : World) : Prop where
  bl : ∀ n k, look b n = some k → BR R w0.heap.size w μ n k
  dead : ∀ n, look b n = none → μ n = .dead
  inj : ∀ m n B, (μ m).own B → (μ n).own B → m = n
  below : Below w0.heap.size w0 w
  res : ∀ B, R.p B → B < w0.heap.size
  fsz : R.fw.heap.size ≤ w.heap.size
  frm : ∀ k, k < R.fw.heap.size → R.keep k → w.heap[k]? = R.fw.heap[k]? ∧ ∀ n, ¬ (μ n).own k
structure RRel (R : RT) (w0 : World) (N : Nat) (ops : Array Oper) (μ : Nat → Gh) (r : RS) (a : Act) (w : World) : Prop where
  size : a.tmps.size = N
  dfr : a.defers = []
  sl : ∀ i t x, look r.s i = some (t, x) → ∃ u, a.tmps[i]? = some u ∧ TR R ops a.tmps w μ t x u
  mem : Mem R w0 μ r.b w
structure SRel (R : RT) (w0 : World) (N : Nat) (μ : Nat → Gh) (st : St) (a : Act) (w : World) : Prop where
  size : a.tmps.size = N
  dfr : a.defers = []
  sl : ∀ i x, look st.s i = some x → ∃ u, a.tmps[i]? = some u ∧ AVR w μ (Good R μ) x u
  mem : Mem R w0 μ st.b w

end Go.Proofs.Ytoknhjmcoleejaa
