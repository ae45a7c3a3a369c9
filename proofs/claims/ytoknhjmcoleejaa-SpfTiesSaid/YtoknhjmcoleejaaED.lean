/- One step of memory: what a new or a written block leaves of the relation. No condition. -/
import Derived.Test.YtoknhjmcoleejaaEC
set_option linter.unusedVariables false
set_option linter.unusedSimpArgs false
namespace Go.Proofs.Ytoknhjmcoleejaa
open Go.RowKit

/-- From w to w' the blocks of the names S alone are new or written. -/
structure Step (μ μ' : Nat → Gh) (w w' : World) (S : Nat → Prop) : Prop where
  gr : ∃ ρ, w.grownBy w' ρ ∧ ∀ B, ρ = some B → ∃ n, S n ∧ (μ n).own B
  oth : ∀ n, ¬ S n → μ' n = μ n
  fr : ∀ n B, S n → (μ' n).own B → (∃ m, S m ∧ (μ m).own B) ∨ w.heap.size ≤ B
  ij : ∀ m n B, S m → S n → (μ' m).own B → (μ' n).own B → m = n

section
variable {R : RT} {w w' w0 : World} {μ μ' : Nat → Gh} {b : Nat} {S : Nat → Prop}
/-- One name's step. -/
theorem Step.one {ρ : Option Nat} (gr : w.grownBy w' ρ) (hρ : ∀ B, ρ = some B → (μ b).own B) (oth : ∀ n, n ≠ b → μ' n = μ n) (fr : ∀ B, (μ' b).own B → (μ b).own B ∨ w.heap.size ≤ B) : Step μ μ' w w' (· = b) :=
  ⟨⟨ρ, gr, fun B hB => ⟨b, rfl, hρ B hB⟩⟩, oth, fun n B hn h => by subst hn; exact (fr B h).imp (fun h => ⟨_, rfl, h⟩) id, fun m n B hm hn _ _ => hm.trans hn.symm⟩
theorem Step.cell (h : Step μ μ' w w' S) (a : Addr) (v : Value) (hg : Good R μ a.block) (hc : w.cell? a = some v) : w'.cell? a = some v ∧ Good R μ' a.block := by
  have hlt := World.block_lt_of_cell? w a hc
  obtain ⟨ρ, g1, g2⟩ := h.gr
  refine ⟨g1.cell hc (fun e => by obtain ⟨n, _, hn⟩ := g2 _ e.symm; exact hg.2 n hn), hg.1, fun n hn => ?_⟩
  by_cases e : S n
  · rcases h.fr n _ e hn with ⟨m, _, h1⟩ | h1
    · exact hg.2 m h1
    · omega
  · exact hg.2 n (h.oth n e ▸ hn)
theorem Step.refs (h : Step μ μ' w w' S) {l : List Nat} (hr : ∀ n, n ∈ l → S n → (μ' n).main = (μ n).main) : ∀ n, n ∈ l → (μ' n).main = (μ n).main := fun n hn => by
  by_cases e : S n
  · exact hr n hn e
  · rw [h.oth n e]
theorem Step.avr (h : Step μ μ' w w' S) {x : AV} {u : Value} (hx : AVR w μ (Good R μ) x u) (hr : ∀ n, n ∈ refAV x → S n → (μ' n).main = (μ n).main) : AVR w' μ' (Good R μ') x u :=
  hx.mono h.cell (h.refs hr)
theorem Step.csr (h : Step μ μ' w w' S) {x : List C} {u : List Value} (hx : CsR w μ (Good R μ) x u) (hr : ∀ n, n ∈ refCs x → S n → (μ' n).main = (μ n).main) : CsR w' μ' (Good R μ') x u :=
  hx.mono h.cell (h.refs hr)
theorem Step.cr (h : Step μ μ' w w' S) {x : C} {u : Value} (hx : CR w μ (Good R μ) x u) (hr : ∀ n, n ∈ refC x → S n → (μ' n).main = (μ n).main) : CR w' μ' (Good R μ') x u :=
  hx.mono h.cell (h.refs hr)

theorem flatC_noref (k : K) (xs : List (ty k)) : refCs (flatC k xs) = [] := by
  induction xs with
  | nil => rfl
  | cons x l ih =>
    have : flatC k (x :: l) = cells k x ++ flatC k l := rfl
    rw [this]
    simp only [refCs, List.flatMap_append]
    rw [show (flatC k l).flatMap refC = [] from ih, List.append_nil]
    rw [List.flatMap_eq_nil_iff]
    exact fun c hc => cells_noref k x hc
theorem killC_ref (b : Nat) (c : C) : ∀ n, n ∈ refC (killC b c) → n ≠ b ∧ n ∈ refC c := by
  intro n hn
  cases c <;> simp only [killC] at hn <;> first
    | (rename_i q; cases hb : Nat.beq _ b <;> rw [hb] at hn <;> simp only [cond_true, cond_false, refC, List.mem_singleton, List.not_mem_nil] at hn; subst hn; exact ⟨beq_ne hb, by simp [refC]⟩)
    | (rename_i q o; cases hb : Nat.beq q b <;> rw [hb] at hn <;> simp only [cond_true, cond_false, refC, List.mem_singleton, List.not_mem_nil] at hn; subst hn; exact ⟨beq_ne hb, by simp [refC]⟩)
    | (rename_i k q i o; cases hb : Nat.beq q b <;> rw [hb] at hn <;> simp only [cond_true, cond_false, refC, List.mem_singleton, List.not_mem_nil] at hn; subst hn; exact ⟨beq_ne hb, by simp [refC]⟩)
    | (simp [refC] at hn)
theorem killC_cr {G : Nat → Prop} {c : C} {v : Value} (h : CR w μ G c v) (b : Nat) : CR w μ G (killC b c) v := by
  have h1 := h.one
  cases c <;> simp only [killC] <;> first
    | exact h
    | (split
       · exact .undef v h1
       · exact h)
    | (cases hb : Nat.beq _ b
       · exact h
       · exact .undef v h1)
theorem killCs_csr {G : Nat → Prop} (b : Nat) : ∀ {cs : List C} {vs : List Value}, CsR w μ G cs vs → CsR w μ G (cs.map (killC b)) vs
  | [], [], _ => trivial
  | c :: cs, v :: vs, h => ⟨killC_cr h.1 b, killCs_csr b h.2⟩
  | [], _ :: _, h => h.elim
  | _ :: _, [], h => h.elim
theorem killV1_r {G : Nat → Prop} (b : Nat) {x : V1} {v : Value} (h : V1R w μ G x v) : V1R w μ G (killV1 b x) v := by
  cases x with
  | c x => exact killC_cr h b
  | agg cs => obtain ⟨vs, rfl, hc⟩ := h; exact ⟨vs, rfl, killCs_csr b hc⟩
theorem killV1s_r {G : Nat → Prop} (b : Nat) : ∀ {cs : List V1} {vs : List Value}, V1sR w μ G cs vs → V1sR w μ G (cs.map (killV1 b)) vs
  | [], [], _ => trivial
  | c :: cs, v :: vs, h => ⟨killV1_r b h.1, killV1s_r b h.2⟩
  | [], _ :: _, h => h.elim
  | _ :: _, [], h => h.elim
theorem killAV_r {G : Nat → Prop} (b : Nat) {x : AV} {v : Value} (h : AVR w μ G x v) : AVR w μ G (killAV b x) v := by
  cases x with
  | v x => exact killV1_r b h
  | tup l => obtain ⟨vs, rfl, hc⟩ := h; exact ⟨vs, rfl, killV1s_r b hc⟩
  | fn f l => obtain ⟨vs, rfl, hc⟩ := h; exact ⟨vs, rfl, killV1s_r b hc⟩
theorem killCs_ref (b : Nat) (cs : List C) : ∀ n, n ∈ refCs (cs.map (killC b)) → n ≠ b ∧ n ∈ refCs cs := by
  intro n hn
  simp only [refCs, List.mem_flatMap, List.mem_map] at hn ⊢
  obtain ⟨_, ⟨c, hc, rfl⟩, h⟩ := hn
  have := killC_ref b c n h
  exact ⟨this.1, c, hc, this.2⟩
theorem killV1_ref (b : Nat) (x : V1) : ∀ n, n ∈ refV1 (killV1 b x) → n ≠ b ∧ n ∈ refV1 x := by
  cases x with
  | c x => exact killC_ref b x
  | agg cs => exact killCs_ref b cs
theorem killAV_ref (b : Nat) (x : AV) : ∀ n, n ∈ refAV (killAV b x) → n ≠ b ∧ n ∈ refAV x := by
  have key : ∀ l : List V1, ∀ n, n ∈ (l.map (killV1 b)).flatMap refV1 → n ≠ b ∧ n ∈ l.flatMap refV1 := by
    intro l n hn
    simp only [List.mem_flatMap, List.mem_map] at hn ⊢
    obtain ⟨_, ⟨c, hc, rfl⟩, h⟩ := hn
    have := killV1_ref b c n h
    exact ⟨this.1, c, hc, this.2⟩
  cases x with
  | v x => exact killV1_ref b x
  | tup l => exact key l
  | fn f l => exact key l
theorem killBlk_ref (b : Nat) (x : Blk) : ∀ n, n ∈ refBlk (killBlk b x) → n ≠ b ∧ n ∈ refBlk x := by
  cases x with
  | box cs t => exact killCs_ref b cs
  | lit k css =>
    intro n hn
    simp only [killBlk, refBlk, List.mem_flatMap, List.mem_map] at hn ⊢
    obtain ⟨_, ⟨cs, hc, rfl⟩, h⟩ := hn
    have := killCs_ref b cs n h
    exact ⟨this.1, cs, hc, this.2⟩
  | _ => intro n hn; simp [killBlk, refBlk] at hn
theorem killFlat (b : Nat) (css : List (List C)) : (css.map fun cs => cs.map (killC b)).flatMap id = (css.flatMap id).map (killC b) := by
  induction css with
  | nil => rfl
  | cons cs l ih => simp only [List.map_cons, List.flatMap_cons, id, List.map_append] at ih ⊢; rw [← ih]
theorem killBlk_br {base n : Nat} (b : Nat) {x : Blk} (h : BR R base w μ n x) : BR R base w μ n (killBlk b x) := by
  cases x with
  | box cs t => obtain ⟨B, vs, h1, h2, h3, h4⟩ := h; exact ⟨B, vs, h1, h2, h3, killCs_csr b h4⟩
  | lit k css =>
    obtain ⟨v, vals, h1, h2, h3, h4⟩ := h
    refine ⟨v, vals, h1, by simpa using h2, by rw [killFlat]; exact killCs_csr b h3, fun cs hcs => ?_⟩
    obtain ⟨ds, hd, rfl⟩ := List.mem_map.1 hcs
    simp [h4 ds hd]
  | _ => exact h

/-- What is in a row that a deep one owns stays. -/
theorem csr_flatv {G' : Nat → Prop} {μ2 : Nat → Gh} {w2 : World} : ∀ {cs : List C} {vs : List Value} {G : Nat → Prop}, CsR w μ G cs vs → (∀ c, c ∈ cs → ∃ v, c = .val v) → CsR w2 μ2 G' cs vs
  | [], [], _, _, _ => trivial
  | c :: cs, v :: vs, _, h, hn => by
    obtain ⟨v', rfl⟩ := hn c (by simp)
    refine ⟨?_, csr_flatv h.2 (fun c hc => hn c (by simp [hc]))⟩
    have := h.1
    cases this with
    | val _ h1 => exact .val _ h1
  | [], _ :: _, _, h, _ => h.elim
  | _ :: _, [], _, h, _ => h.elim
theorem flatK_val {k : K} (h : flatK k = true) (x : ty k) : ∀ c, c ∈ cells k x → ∃ v, c = .val v := by
  have : (cells k x).all (fun c => match c with | .val _ => true | _ => false) = true := by cases k <;> first | rfl | cases h
  intro c hc
  have := List.all_eq_true.1 this c hc
  cases c <;> first | (cases this; done) | exact ⟨_, rfl⟩
theorem flatC_val {k : K} (h : flatK k = true) (xs : List (ty k)) : ∀ c, c ∈ flatC k xs → ∃ v, c = .val v := by
  intro c hc
  obtain ⟨x, _, hx⟩ := List.mem_flatMap.1 hc
  exact flatK_val h x c hx
theorem DC.kept {base i j : Nat} {f : Nat → Nat → Value} {hole : Option (Int × Nat)} {c : C} {u : Value} {ρ : Option Nat} (h : DC w base f hole i j c u) (hg : w.grownBy w' ρ) (hρ : ∀ B, (f i j).ownBlock = some B → ρ ≠ some B) : DC w' base f hole i j c u := by
  cases c with
  | sl k ys =>
    obtain ⟨h1, h2, h3⟩ := h
    refine ⟨h1, h2, fun hh => ?_⟩
    obtain ⟨q1, q2, lv, q3, q4⟩ := h3 hh
    refine ⟨q1, q2, lv, q3.kept hg ?_, csr_flatv q4 (flatC_val q2 ys)⟩
    cases hu : u.ownBlock with
    | none => exact .inl rfl
    | some B => exact .inr fun e => hρ B (by rw [← q1]; exact hu) e.symm
  | _ => exact h
theorem DeepOK.kept {base : Nat} {k : K} {xs : List (ty k)} {hole : Option (Int × Nat)} {v : Value} {f : Nat → Nat → Value} {vals : List Value} {ρ : Option Nat} (h : DeepOK base w k xs hole v f vals) (hg : w.grownBy w' ρ)
    (hρ : ∀ B, (Gh.deep v f).own B → ρ ≠ some B) : DeepOK base w' k xs hole v f vals := by
  refine ⟨h.row.kept hg ?_, fun i j B hB => ⟨(h.lo i j B hB).1, Nat.lt_of_lt_of_le (h.lo i j B hB).2 hg.size⟩, h.inj, h.apart, fun i x hx j c hc => ?_⟩
  · cases hv : v.ownBlock with
    | none => exact .inl rfl
    | some B => exact .inr fun e => hρ B (.inl hv) e.symm
  · obtain ⟨u, h1, h2⟩ := h.cell i x hx j c hc
    exact ⟨u, h1, h2.kept hg (fun B hB => hρ B (.inr ⟨i, j, hB⟩))⟩

/-- A block that isn't the step's own. -/
theorem Step.br (h : Step μ μ' w w' S) {base n : Nat} {k : Blk} (hn : ¬ S n) (hi : ∀ m B, S m → (μ n).own B → ¬ (μ m).own B) (hk : BR R base w μ n k) (hr : ∀ q, q ∈ refBlk k → S q → (μ' q).main = (μ q).main) : BR R base w' μ' n k := by
  obtain ⟨ρ, g1, g2⟩ := h.gr
  have hne : ∀ B, (μ n).own B → ρ ≠ some B := fun B hB e => by
    obtain ⟨m, h1, h2⟩ := g2 B e
    exact hi m B h1 hB h2
  cases k with
  | box cs t =>
    obtain ⟨B, vs, h1, h2, h3, h4⟩ := hk
    have hlt : B < w.heap.size := (Array.getElem?_eq_some_iff.1 h3).1
    exact ⟨B, vs, by rw [h.oth n hn, h1], h2, by rw [g1.block B hlt (fun e => hne B (by rw [h1]; rfl) e.symm), h3], h.csr h4 hr⟩
  | arr kk xs =>
    obtain ⟨v, vals, h1, h2, h3⟩ := hk
    refine ⟨v, vals, by rw [h.oth n hn, h1], h2.kept g1 ?_, h.csr h3 (fun q hm => by rw [flatC_noref] at hm; cases hm)⟩
    cases hv : v.ownBlock with
    | none => exact .inl rfl
    | some g => exact .inr fun e => hne g (by rw [h1]; exact hv) e.symm
  | mpb kv =>
    obtain ⟨B, es, clk, h1, h2, h3, h4⟩ := hk
    have hlt : B < w.heap.size := (Array.getElem?_eq_some_iff.1 h3).1
    exact ⟨B, es, clk, by rw [h.oth n hn, h1], h2, by rw [g1.block B hlt (fun e => hne B (by rw [h1]; rfl) e.symm), h3], h4⟩
  | mpi kv =>
    obtain ⟨B, es, clk, h1, h2, h3, h4⟩ := hk
    have hlt : B < w.heap.size := (Array.getElem?_eq_some_iff.1 h3).1
    exact ⟨B, es, clk, by rw [h.oth n hn, h1], h2, by rw [g1.block B hlt (fun e => hne B (by rw [h1]; rfl) e.symm), h3], h4⟩
  | lit kk css =>
    obtain ⟨v, vals, h1, h2, h3, h4⟩ := hk
    refine ⟨v, vals, by rw [h.oth n hn, h1], h2.kept g1 ?_, h.csr h3 (fun q hm => hr q ?_), h4⟩
    · cases hv : v.ownBlock with
      | none => exact .inl rfl
      | some g => exact .inr fun e => hne g (by rw [h1]; exact hv) e.symm
    · simp only [refCs, refBlk, List.mem_flatMap, id] at hm ⊢
      obtain ⟨c, ⟨cs, hcs, hc⟩, hq⟩ := hm
      exact ⟨cs, hcs, c, hc, hq⟩
  | deep kk xs hole =>
    obtain ⟨v, f, vals, h1, h2⟩ := hk
    exact ⟨v, f, vals, by rw [h.oth n hn, h1], h2.kept g1 (fun B hB => hne B (by rw [h1]; exact hB))⟩
theorem BR.blk {base n : Nat} {k : Blk} (h : BR R base w μ n k) : ∀ B, (μ n).own B → base ≤ B ∧ B < w.heap.size := by
  intro B hB
  cases k with
  | box cs t => obtain ⟨B', vs, h1, h2, h3, h4⟩ := h; rw [h1] at hB; have hB : B = B' := hB; subst hB; exact ⟨h2, (Array.getElem?_eq_some_iff.1 h3).1⟩
  | arr kk xs => obtain ⟨v, vals, h1, h2, h3⟩ := h; rw [h1] at hB; exact h2.lt B hB
  | mpb kv => obtain ⟨B', es, clk, h1, h2, h3, h4⟩ := h; rw [h1] at hB; have hB : B = B' := hB; subst hB; exact ⟨h2, (Array.getElem?_eq_some_iff.1 h3).1⟩
  | mpi kv => obtain ⟨B', es, clk, h1, h2, h3, h4⟩ := h; rw [h1] at hB; have hB : B = B' := hB; subst hB; exact ⟨h2, (Array.getElem?_eq_some_iff.1 h3).1⟩
  | lit kk css => obtain ⟨v, vals, h1, h2, h3⟩ := h; rw [h1] at hB; exact h2.lt B hB
  | deep kk xs hole =>
    obtain ⟨v, f, vals, h1, h2⟩ := h
    rw [h1] at hB
    rcases hB with hB | ⟨i, j, hB⟩
    · exact h2.row.lt B hB
    · exact h2.lo i j B hB
theorem Mem.blk {bs : List (Nat × Blk)} (h : Mem R w0 μ bs w) (n B : Nat) (hB : (μ n).own B) : w0.heap.size ≤ B ∧ B < w.heap.size := by
  cases hl : look bs n with
  | none => rw [h.dead n hl] at hB; exact hB.elim
  | some k => exact (h.bl n k hl).blk B hB
theorem CR.dead_ref {G : Nat → Prop} {c : C} {v : Value} (hc : CR w μ G c v) (hd : μ b = .dead) : b ∉ refC c := by
  intro hb
  cases hc <;> simp [refC] at hb <;> subst hb <;> simp_all [Gh.main]
theorem CsR.dead_ref {G : Nat → Prop} {cs : List C} {vs : List Value} (hc : CsR w μ G cs vs) (hd : μ b = .dead) : b ∉ refCs cs := by
  intro hr
  simp only [refCs, List.mem_flatMap] at hr
  obtain ⟨c, hcm, hcb⟩ := hr
  obtain ⟨i, hi', he⟩ := List.getElem_of_mem hcm
  obtain ⟨v, _, hcr⟩ := hc.get (i := i) (c := c) (by rw [List.getElem?_eq_getElem hi', he])
  exact hcr.dead_ref hd hcb
theorem BR.dead_ref {base n : Nat} {k : Blk} (h : BR R base w μ n k) (hd : μ b = .dead) : b ∉ refBlk k := by
  cases k with
  | box cs t => obtain ⟨B, vs, _, _, _, h4⟩ := h; exact h4.dead_ref hd
  | lit kk css =>
    obtain ⟨v, vals, _, _, h3, _⟩ := h
    intro hm
    refine h3.dead_ref hd ?_
    simp only [refCs, refBlk, List.mem_flatMap, id] at hm ⊢
    obtain ⟨cs, hcs, c, hc, hq⟩ := hm
    exact ⟨c, ⟨cs, hcs, hc⟩, hq⟩
  | _ => intro hm; simp [refBlk] at hm

/-- The step's whole. -/
theorem Step.mem (h : Step μ μ' w w' S) {bs bs' : List (Nat × Blk)} (hm : Mem R w0 μ bs w) (hS : ∀ n, S n → (∀ k, look bs' n = some k → BR R w0.heap.size w' μ' n k) ∧ (look bs' n = none → μ' n = .dead))
    (hbs : ∀ n, ¬ S n → (look bs' n = none → look bs n = none) ∧ ∀ k', look bs' n = some k' → ∃ k, look bs n = some k ∧ (BR R w0.heap.size w μ n k → BR R w0.heap.size w μ n k') ∧ ∀ q, q ∈ refBlk k' → S q → (μ' q).main = (μ q).main) : Mem R w0 μ' bs' w' := by
  have hsz := hm.below.size
  obtain ⟨ρ, g1, g2⟩ := h.gr
  refine ⟨fun n k hk => ?_, fun n hn => ?_, fun m n B h1 h2 => ?_, hm.below.grown g1 hsz (fun k hk => by obtain ⟨n, _, hn⟩ := g2 k hk; exact (hm.blk n k hn).1), hm.res, Nat.le_trans hm.fsz g1.size, fun k hk hkp => ?_⟩
  rotate_right
  · obtain ⟨f1, f2⟩ := hm.frm k hk hkp
    have hlt := Nat.lt_of_lt_of_le hk hm.fsz
    refine ⟨by rw [g1.block k hlt (fun e => by obtain ⟨n, _, hn⟩ := g2 k e.symm; exact f2 n hn), f1], fun n hn => ?_⟩
    by_cases e : S n
    · rcases h.fr n k e hn with ⟨m, _, h3⟩ | h3
      · exact f2 m h3
      · omega
    · rw [h.oth n e] at hn; exact f2 n hn
  · by_cases e : S n
    · exact (hS n e).1 k hk
    · obtain ⟨k0, h1, h2, h3⟩ := (hbs n e).2 k hk
      exact h.br e (fun m B hS' h4 h5 => e (hm.inj m n B h5 h4 ▸ hS')) (h2 (hm.bl n k0 h1)) h3
  · by_cases e : S n
    · exact (hS n e).2 hn
    · rw [h.oth n e]; exact hm.dead n ((hbs n e).1 hn)
  · -- no two share
    have key : ∀ m n B, ¬ S m → S n → (μ' m).own B → (μ' n).own B → False := by
      intro m n B hm' hn h1 h2
      rw [h.oth m hm'] at h1
      rcases h.fr n B hn h2 with ⟨q, hq, h3⟩ | h3
      · exact hm' (hm.inj _ _ B h3 h1 ▸ hq)
      · have := (hm.blk m B h1).2; omega
    by_cases e1 : S m
    · by_cases e2 : S n
      · exact h.ij m n B e1 e2 h1 h2
      · exact (key n m B e2 e1 h2 h1).elim
    · by_cases e2 : S n
      · exact (key m n B e1 e2 h1 h2).elim
      · rw [h.oth m e1] at h1; rw [h.oth n e2] at h2; exact hm.inj _ _ B h1 h2
/-- One block new or written, the others as they are. -/
theorem Step.mem1 (h : Step μ μ' w w' (· = b)) {bs bs' : List (Nat × Blk)} {blk : Blk} (hm : Mem R w0 μ bs w) (hb : look bs' b = some blk) (hblk : BR R w0.heap.size w' μ' b blk)
    (hbs : ∀ n, n ≠ b → look bs' n = look bs n) (hk : (μ' b).main = (μ b).main ∨ look bs b = none) : Mem R w0 μ' bs' w' := by
  refine h.mem hm (fun n hn => ?_) (fun n hn => ⟨fun h => by rw [← hbs n hn]; exact h, fun k hk' => ⟨k, by rw [← hbs n hn]; exact hk', fun h => h, fun q hq hqb => ?_⟩⟩)
  · subst hn
    exact ⟨fun k hk => by rw [hb] at hk; cases hk; exact hblk, fun hn => by rw [hb] at hn; cases hn⟩
  · subst hqb
    rcases hk with hk | hk
    · exact hk
    · rw [hbs n hn] at hk'
      exact absurd hq ((hm.bl n k hk').dead_ref (hm.dead _ hk))
/-- One block, the references to which have ended. -/
theorem Step.mem2 (h : Step μ μ' w w' (· = b)) {bs bs' : List (Nat × Blk)} {blk : Blk} (hm : Mem R w0 μ bs w) (hb : look bs' b = some blk) (hblk : BR R w0.heap.size w' μ' b blk)
    (hbs : ∀ n, n ≠ b → look bs' n = (look bs n).map (killBlk b)) : Mem R w0 μ' bs' w' := by
  refine h.mem hm (fun n hn => ?_) (fun n hn => ⟨fun h => ?_, fun k hk' => ?_⟩)
  · subst hn
    exact ⟨fun k hk => by rw [hb] at hk; cases hk; exact hblk, fun hn => by rw [hb] at hn; cases hn⟩
  · rw [hbs n hn] at h
    cases hl : look bs n with
    | none => rfl
    | some _ => rw [hl] at h; cases h
  · rw [hbs n hn] at hk'
    cases hl : look bs n with
    | none => rw [hl] at hk'; cases hk'
    | some k0 =>
      rw [hl] at hk'
      injection hk' with hk'
      subst hk'
      exact ⟨k0, rfl, fun h => killBlk_br b h, fun q hq hqb => absurd hqb (killBlk_ref b k0 q hq).1⟩

/-- Blocks are made, none is written. -/
theorem ext_cell (hb : Below w.heap.size w w') (a : Addr) (v : Value) (hg : Good R μ a.block) (hc : w.cell? a = some v) : w'.cell? a = some v ∧ Good R μ a.block :=
  ⟨(hb.cell (World.block_lt_of_cell? w a hc)).trans hc, hg⟩
theorem AVR.ext (hb : Below w.heap.size w w') {x : AV} {u : Value} (h : AVR w μ (Good R μ) x u) : AVR w' μ (Good R μ) x u := h.mono (ext_cell hb) fun _ _ => rfl
theorem grown_below (h : Below w.heap.size w w') (row : Option Nat) : w.grownBy w' row := ⟨h.os, h.tape, h.output, h.size, fun i hi _ => h.block i hi⟩
theorem below_then {B : Nat} {w1 w2 : World} (h : Below B w w1) (hB : B ≤ w1.heap.size) (k : Below w1.heap.size w1 w2) : Below B w w2 :=
  h.trans ⟨k.os, k.tape, k.output, k.size, fun i hi => k.block i (Nat.lt_of_lt_of_le hi hB)⟩
theorem BR.ext (hb : Below w.heap.size w w') {base n : Nat} {k : Blk} (h : BR R base w μ n k) : BR R base w' μ n k := by
  cases k with
  | box cs t =>
    obtain ⟨B, vs, h1, h2, h3, h4⟩ := h
    exact ⟨B, vs, h1, h2, by rw [hb.block B (Array.getElem?_eq_some_iff.1 h3).1, h3], h4.mono (ext_cell hb) fun _ _ => rfl⟩
  | arr kk xs =>
    obtain ⟨v, vals, h1, h2, h3⟩ := h
    exact ⟨v, vals, h1, h2.kept (grown_below hb none) (by cases v.ownBlock <;> simp), h3.mono (ext_cell hb) fun _ _ => rfl⟩
  | mpb kv => obtain ⟨B, es, clk, h1, h2, h3, h4⟩ := h; exact ⟨B, es, clk, h1, h2, by rw [hb.block B (Array.getElem?_eq_some_iff.1 h3).1, h3], h4⟩
  | mpi kv => obtain ⟨B, es, clk, h1, h2, h3, h4⟩ := h; exact ⟨B, es, clk, h1, h2, by rw [hb.block B (Array.getElem?_eq_some_iff.1 h3).1, h3], h4⟩
  | lit kk css =>
    obtain ⟨v, vals, h1, h2, h3, h4⟩ := h
    exact ⟨v, vals, h1, h2.kept (grown_below hb none) (by cases v.ownBlock <;> simp), h3.mono (ext_cell hb) fun _ _ => rfl, h4⟩
  | deep kk xs hole =>
    obtain ⟨v, f, vals, h1, h2⟩ := h
    exact ⟨v, f, vals, h1, h2.kept (grown_below hb none) (fun _ _ => by simp)⟩
theorem Mem.ext {bs : List (Nat × Blk)} (hm : Mem R w0 μ bs w) (hb : Below w.heap.size w w') : Mem R w0 μ bs w' :=
  ⟨fun n k hk => (hm.bl n k hk).ext hb, hm.dead, hm.inj, below_then hm.below hm.below.size hb, hm.res, Nat.le_trans hm.fsz hb.size, fun k hk hkp => ⟨by rw [hb.block k (Nat.lt_of_lt_of_le hk hm.fsz), (hm.frm k hk hkp).1], (hm.frm k hk hkp).2⟩⟩

/-- A new block. -/
theorem step_new (hm : μ b = .dead) (g : Gh) (hb : Below w.heap.size w w') (hg : ∀ B, g.own B → w.heap.size ≤ B) : Step μ (fun n => if n = b then g else μ n) w w' (· = b) :=
  Step.one (grown_below hb none) (fun B h => by cases h) (fun n hn => by simp [hn]) (fun B hB => .inr (hg B (by simpa using hB)))
theorem AVR.dead_ref {G : Nat → Prop} {x : AV} {u : Value} (h : AVR w μ G x u) (hd : μ b = .dead) : b ∉ refAV x := by
  have hV : ∀ {y : V1} {v : Value}, V1R w μ G y v → b ∉ refV1 y := by
    intro y v hy
    cases y with
    | c c => exact CR.dead_ref hy hd
    | agg cs => obtain ⟨vs, rfl, hc⟩ := hy; exact hc.dead_ref hd
  have hVs : ∀ {l : List V1} {vs : List Value}, V1sR w μ G l vs → b ∉ l.flatMap refV1 := by
    intro l vs hc hr
    simp only [List.mem_flatMap] at hr
    obtain ⟨c, hcm, hcb⟩ := hr
    obtain ⟨i, hi', he⟩ := List.getElem_of_mem hcm
    obtain ⟨v, _, hcr⟩ := hc.get (i := i) (c := c) (by rw [List.getElem?_eq_getElem hi', he])
    exact hV hcr hcb
  cases x with
  | v x => exact hV h
  | tup l => obtain ⟨us, rfl, hl⟩ := h; exact hVs hl
  | fn f l => obtain ⟨us, rfl, hl⟩ := h; exact hVs hl
/-! ### several references ended -/
def killLBlk : List Nat → Blk → Blk
  | [], x => x
  | b :: l, x => killLBlk l (killBlk b x)
theorem killLBlk_br {base n : Nat} : ∀ (l : List Nat) {x : Blk}, BR R base w μ n x → BR R base w μ n (killLBlk l x)
  | [], _, h => h
  | b :: l, x, h => killLBlk_br l (killBlk_br b h)
theorem killLBlk_ref : ∀ (l : List Nat) (x : Blk), ∀ n, n ∈ refBlk (killLBlk l x) → n ∉ l ∧ n ∈ refBlk x
  | [], x, n, h => ⟨by simp, h⟩
  | b :: l, x, n, h => by
    obtain ⟨h1, h2⟩ := killLBlk_ref l _ n h
    obtain ⟨h3, h4⟩ := killBlk_ref b x n h2
    exact ⟨by simp [h1, h3], h4⟩
theorem killLV_r {G : Nat → Prop} : ∀ (l : List Nat) {x : AV} {v : Value}, AVR w μ G x v → AVR w μ G (killLV l x) v
  | [], _, _, h => h
  | b :: l, x, v, h => killLV_r l (killAV_r b h)
theorem killLV_ref : ∀ (l : List Nat) (x : AV), ∀ n, n ∈ refAV (killLV l x) → n ∉ l ∧ n ∈ refAV x
  | [], x, n, h => ⟨by simp, h⟩
  | b :: l, x, n, h => by
    obtain ⟨h1, h2⟩ := killLV_ref l _ n h
    obtain ⟨h3, h4⟩ := killAV_ref b x n h2
    exact ⟨by simp [h1, h3], h4⟩
theorem look_killL_b : ∀ (l : List Nat) (r : RS) (n : Nat), look (killL l r).b n = if n ∈ l then none else (look r.b n).map (killLBlk l)
  | [], r, n => by simp [killL]; cases look r.b n <;> rfl
  | b :: l, r, n => by
    rw [killL, look_killL_b l _ n]
    simp only [killRS, look_mapV, look_del]
    by_cases h1 : n ∈ l
    · simp [h1]
    · by_cases h2 : n = b
      · simp [h2]
      · simp only [h1, if_false, h2, List.mem_cons, or_self]
        cases look r.b n <;> rfl
theorem look_killL_s : ∀ (l : List Nat) (r : RS) (n : Nat), look (killL l r).s n = (look r.s n).map fun p => (p.1, killLV l p.2)
  | [], r, n => by simp only [killL, killLV]; cases look r.s n <;> rfl
  | b :: l, r, n => by
    rw [killL, look_killL_s l _ n]
    simp only [killRS, look_mapV]
    cases look r.s n <;> rfl
/-- A step whose names' references have ended. -/
theorem Step.memL (h : Step μ μ' w w' S) {r : RS} {bs' : List (Nat × Blk)} {l : List Nat} (hm : Mem R w0 μ r.b w) (hS : ∀ n, S n → (∀ k, look bs' n = some k → BR R w0.heap.size w' μ' n k) ∧ (look bs' n = none → μ' n = .dead))
    (hbs : ∀ n, ¬ S n → look bs' n = look (killL l r).b n) (hl : ∀ n, n ∈ l → S n) (hq : ∀ q, S q → q ∉ l → (μ' q).main = (μ q).main ∨ look r.b q = none) : Mem R w0 μ' bs' w' := by
  refine h.mem hm hS (fun n hn => ?_)
  have hnl : n ∉ l := fun e => hn (hl n e)
  rw [hbs n hn, look_killL_b, if_neg hnl]
  refine ⟨fun h => ?_, fun k' hk' => ?_⟩
  · cases hb : look r.b n with
    | none => rfl
    | some _ => rw [hb] at h; cases h
  · cases hb : look r.b n with
    | none => rw [hb] at hk'; cases hk'
    | some k0 =>
      rw [hb] at hk'
      injection hk' with hk'
      subst hk'
      refine ⟨k0, rfl, fun h => killLBlk_br l h, fun q hqr hqS => ?_⟩
      obtain ⟨h1, h2⟩ := killLBlk_ref l k0 q hqr
      rcases hq q hqS h1 with h3 | h3
      · exact h3
      · exact absurd h2 ((hm.bl n k0 hb).dead_ref (hm.dead _ h3))
end
end Go.Proofs.Ytoknhjmcoleejaa
