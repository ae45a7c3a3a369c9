/- Code: the rules, and the evaluator's word for straight pieces. No condition. -/
import Derived.Test.YtoknhjmcoleejaaEQ
set_option linter.unusedVariables false
set_option linter.unusedSimpArgs false
namespace Go.Proofs.Ytoknhjmcoleejaa
open Go.RowKit

/-- From the state st the code comes to ends of which Q holds. -/
def EV (P : Program) (N : Nat) (c : Code) (st : St) (Q : Exit → St → Prop) : Prop :=
  ∀ R w0 μ a w, SRel R w0 N μ st a w → c.wp P (fun e a' w' => ∃ st' μ', Q e st' ∧ SRel R w0 N μ' st' a' w') a w

section
variable {R : RT} {P : Program} {w0 w w' : World} {N : Nat} {ops : Array Oper} {μ μ' : Nat → Gh} {r r2 : RS} {a : Act} {sig : List (Nat × Summary)} {st st' : St} {Q Q' : Exit → St → Prop}

/-! ### blocks dropped -/
theorem drop_cell {G G' : Nat → Prop} (hg : ∀ B, G B → G' B) (a : Addr) (v : Value) (h : G a.block) (hc : w.cell? a = some v) : w.cell? a = some v ∧ G' a.block := ⟨hc, hg _ h⟩
theorem BR.sub {base n : Nat} {k : Blk} (h : BR R base w μ n k) (hn : μ' n = μ n) (hg : ∀ B, Good R μ B → Good R μ' B) (hr : ∀ b, b ∈ refBlk k → (μ' b).main = (μ b).main) : BR R base w μ' n k := by
  cases k with
  | box cs t => obtain ⟨B, vs, h1, h2, h3, h4⟩ := h; exact ⟨B, vs, by rw [hn, h1], h2, h3, h4.mono (drop_cell hg) hr⟩
  | arr kk xs => obtain ⟨v, vals, h1, h2, h3⟩ := h; exact ⟨v, vals, by rw [hn, h1], h2, h3.mono (drop_cell hg) (fun b hb => by rw [flatC_noref] at hb; cases hb)⟩
  | mpb kv => obtain ⟨B, es, clk, h1, h2⟩ := h; exact ⟨B, es, clk, by rw [hn, h1], h2⟩
  | mpi kv => obtain ⟨B, es, clk, h1, h2⟩ := h; exact ⟨B, es, clk, by rw [hn, h1], h2⟩
  | lit kk css =>
    obtain ⟨v, vals, h1, h2, h3, h4⟩ := h
    refine ⟨v, vals, by rw [hn, h1], h2, h3.mono (drop_cell hg) (fun b hb => hr b ?_), h4⟩
    simp only [refCs, refBlk, List.mem_flatMap, id] at hb ⊢
    obtain ⟨c, ⟨cs, hcs, hc⟩, hq⟩ := hb
    exact ⟨cs, hcs, c, hc, hq⟩
  | deep kk xs hole => obtain ⟨v, f, vals, h1, h2⟩ := h; exact ⟨v, f, vals, by rw [hn, h1], h2⟩
theorem good_sub (ns : Nat → Prop) [DecidablePred ns] : ∀ B, Good R μ B → Good R (fun n => if ns n then μ n else .dead) B := by
  intro B h
  refine ⟨h.1, fun n hn => ?_⟩
  by_cases e : ns n
  · simp [e] at hn; exact h.2 n hn
  · simp [e, Gh.own] at hn
theorem Mem.sub {bs bs' : List (Nat × Blk)} (hm : Mem R w0 μ bs w) (ns : Nat → Prop) [DecidablePred ns] (hb : ∀ n k, look bs' n = some k → ns n ∧ ∃ k0, look bs n = some k0 ∧ (BR R w0.heap.size w μ n k0 → BR R w0.heap.size w μ n k) ∧ ∀ b, b ∈ refBlk k → ns b)
    (hno : ∀ n, look bs' n = none → ns n → look bs n = none) : Mem R w0 (fun n => if ns n then μ n else .dead) bs' w := by
  refine ⟨fun n k hk => ?_, fun n hn => ?_, fun m n B h1 h2 => ?_, hm.below, hm.res, hm.fsz, fun k hk hkp => ⟨(hm.frm k hk hkp).1, fun n hn => ?_⟩⟩
  rotate_right
  · by_cases e : ns n
    · simp [e] at hn; exact (hm.frm k hk hkp).2 n hn
    · simp [e, Gh.own] at hn
  · obtain ⟨h1, k0, h2, h3, h4⟩ := hb n k hk
    exact (h3 (hm.bl n k0 h2)).sub (by simp [h1]) (good_sub ns) (fun b hbm => by simp [h4 b hbm])
  · by_cases e : ns n
    · simp [e]; exact hm.dead n (hno n hn e)
    · simp [e]
  · by_cases e1 : ns m
    · by_cases e2 : ns n
      · simp [e1] at h1; simp [e2] at h2; exact hm.inj m n B h1 h2
      · simp [e2, Gh.own] at h2
    · simp [e1, Gh.own] at h1
theorem AVR.sub {x : AV} {u : Value} (h : AVR w μ (Good R μ) x u) (ns : Nat → Prop) [DecidablePred ns] (hr : ∀ b, b ∈ refAV x → ns b) : AVR w (fun n => if ns n then μ n else .dead) (Good R fun n => if ns n then μ n else .dead) x u :=
  h.mono (drop_cell (good_sub ns)) fun b hb => by simp [hr b hb]
theorem rrel_kill (h : RRel R w0 N ops μ r a w) (b : Nat) : RRel R w0 N ops (fun n => if n ≠ b then μ n else .dead) (killRS b r) a w := by
  refine ⟨h.size, h.dfr, fun i t x hl => ?_, ?_⟩
  · simp only [killRS, look_mapV] at hl
    cases hq : look r.s i with
    | none => rw [hq] at hl; cases hl
    | some p =>
      rw [hq] at hl
      simp only [Option.map_some, Option.some.injEq, Prod.mk.injEq] at hl
      obtain ⟨rfl, rfl⟩ := hl
      obtain ⟨u, h1, h2⟩ := h.sl i p.1 p.2 hq
      refine ⟨u, h1, ?_⟩
      have key : ∀ u, AVR w μ (Good R μ) p.2 u → AVR w (fun n => if n ≠ b then μ n else .dead) (Good R fun n => if n ≠ b then μ n else .dead) (killAV b p.2) u :=
        fun u hu => (killAV_r b hu).sub (fun n => n ≠ b) (fun n hn => (killAV_ref b p.2 n hn).1)
      cases hp : p.1 with
      | none => rw [hp] at h2; exact key u h2
      | some jt => rw [hp] at h2; exact h2.imp (fun q => ⟨q.1, key u q.2⟩) id
  · refine h.mem.sub (fun n => n ≠ b) (fun n k hk => ?_) (fun n hn hne => ?_)
    · simp only [killRS, look_mapV, look_del] at hk
      by_cases e : n = b
      · simp [e] at hk
      · rw [if_neg e] at hk
        cases hq : look r.b n with
        | none => rw [hq] at hk; cases hk
        | some k0 =>
          rw [hq] at hk
          simp only [Option.map_some, Option.some.injEq] at hk
          subst hk
          exact ⟨e, k0, rfl, fun hbr => killBlk_br b hbr, fun q hq => (killBlk_ref b k0 q hq).1⟩
    · simp only [killRS, look_mapV, look_del, if_neg hne] at hn
      cases hq : look r.b n with
      | none => rfl
      | some k0 => rw [hq] at hn; cases hn
theorem rrel_killAll : ∀ (l : List Nat) (μ : Nat → Gh) (r : RS), RRel R w0 N ops μ r a w → ∃ μ', RRel R w0 N ops μ' (killAll l r) a w
  | [], μ, r, h => ⟨μ, h⟩
  | b :: l, μ, r, h => by
    simp only [killAll]
    cases look r.b b with
    | none => exact rrel_killAll l μ r h
    | some _ => exact rrel_killAll l _ _ (rrel_kill h b)
def noTags (r : RS) : Prop := ∀ i t v, look r.s i = some (t, v) → t = none
theorem noTags_killAll : ∀ (l : List Nat) (r : RS), noTags r → noTags (killAll l r)
  | [], r, h => h
  | b :: l, r, h => by
    simp only [killAll]
    cases look r.b b with
    | none => exact noTags_killAll l r h
    | some _ =>
      refine noTags_killAll l _ (fun i t v hl => ?_)
      simp only [killRS, look_mapV] at hl
      cases hq : look r.s i with
      | none => rw [hq] at hl; cases hl
      | some p =>
        rw [hq] at hl
        simp only [Option.map_some, Option.some.injEq, Prod.mk.injEq] at hl
        rw [← hl.1]
        exact h i p.1 p.2 (by rw [hq])
theorem look_toRS (st : St) (i : Nat) : look (toRS st).s i = (look st.s i).map fun v => ((none : Tag), v) := by
  unfold toRS
  simp only
  induction st.s with
  | nil => rfl
  | cons p l ih =>
    simp only [List.map_cons, look]
    cases Nat.beq p.1 i <;> simp [ih]
theorem srel_toRS (h : SRel R w0 N μ st a w) : RRel R w0 N ops μ (toRS st) a w := by
  refine ⟨h.size, h.dfr, fun i t x hl => ?_, h.mem⟩
  rw [look_toRS] at hl
  cases hq : look st.s i with
  | none => rw [hq] at hl; cases hl
  | some v =>
    rw [hq] at hl
    simp only [Option.map_some, Option.some.injEq, Prod.mk.injEq] at hl
    obtain ⟨rfl, rfl⟩ := hl
    exact h.sl i v hq
theorem noTags_toRS (st : St) : noTags (toRS st) := by
  intro i t v hl
  rw [look_toRS] at hl
  cases hq : look st.s i with
  | none => rw [hq] at hl; cases hl
  | some v =>
    rw [hq] at hl
    simp only [Option.map_some, Option.some.injEq, Prod.mk.injEq] at hl
    exact hl.1.symm
theorem keepS_r : ∀ {l : List Nat} {s : List (Nat × AV)}, keepS r l = some s → ∀ i v, look s i = some v → look r.s i = some (none, v)
  | [], s, h, i, v, hl => by simp only [keepS, Option.some.injEq] at h; subst h; cases hl
  | j :: l, s, h, i, v, hl => by
    simp only [keepS] at h
    split at h
    · rename_i x m h1 h2
      obtain rfl := Option.some.inj h
      simp only [look] at hl
      cases hb : Nat.beq j i with
      | true =>
        rw [hb] at hl
        simp only [cond_true, Option.some.injEq] at hl
        rw [← hl, ← Nat.eq_of_beq_eq_true hb, h1]
      | false => rw [hb] at hl; exact keepS_r h2 i v hl
    · rename_i m h1 h2
      obtain rfl := Option.some.inj h
      exact keepS_r h2 i v hl
    · cases h
theorem look_mem {α : Type} : ∀ {l : List (Nat × α)} {i : Nat} {v : α}, look l i = some v → ∃ p, p ∈ l ∧ p.2 = v ∧ p.1 = i
  | p :: l, i, v, h => by
    simp only [look] at h
    cases hb : Nat.beq p.1 i with
    | true => rw [hb] at h; simp only [cond_true, Option.some.injEq] at h; exact ⟨p, by simp, h, Nat.eq_of_beq_eq_true hb⟩
    | false => rw [hb] at h; obtain ⟨q, h1, h2⟩ := look_mem h; exact ⟨q, by simp [h1], h2⟩
theorem look_keepB (N : Nat) (l : List (Nat × Blk)) (ns : List Nat) (i : Nat) : look (keepB N l ns) i = if i < N ∧ i ∈ ns then look l i else none := by
  unfold keepB
  have key : ∀ (m : List Nat), m.Nodup → look (m.filterMap fun n => bif nmem n ns then (look l n).map fun b => (n, b) else none) i = if i ∈ m ∧ i ∈ ns then look l i else none := by
    intro m
    induction m with
    | nil => intro _; simp [look]
    | cons x m ih =>
      intro hnd
      rw [List.nodup_cons] at hnd
      have := ih hnd.2
      simp only [List.filterMap_cons]
      cases hx : nmem x ns with
      | false =>
        simp only [cond_false]
        rw [this]
        have hne : x ∉ ns := by intro h; rw [nmem_iff.2 h] at hx; cases hx
        by_cases hi : i = x
        · subst hi; simp [hne]
        · simp [hi]
      | true =>
        simp only [cond_true]
        cases hl : look l x with
        | none =>
          simp only [Option.map_none]
          rw [this]
          by_cases hi : i = x
          · subst hi; simp [hl]
          · simp [hi]
        | some b =>
          simp only [Option.map_some, look]
          by_cases hi : i = x
          · subst hi
            simp [nmem_iff.1 hx, hl]
          · have : Nat.beq x i = false := by cases hb : Nat.beq x i with | false => rfl | true => exact absurd (Nat.eq_of_beq_eq_true hb).symm hi
            rw [this, cond_false, ih hnd.2]
            simp [hi]
  have := key (List.range N) List.nodup_range
  simpa using this
theorem fin_r {live : List Nat} (h : RRel R w0 N ops μ r a w) (hf : fin N live r = some st) : ∃ μ', SRel R w0 N μ' st a w := by
  unfold fin at hf
  split at hf
  · rename_i s hs
    simp only at hf
    generalize ha : s.flatMap (fun p => refAV p.2) = as at hf
    generalize hc : (keepB N r.b as).flatMap (fun p => refBlk p.2) = cs at hf
    cases hall0 : (r.b.all (fun p => Nat.blt p.1 N) && (keepB N r.b (as ++ cs)).all (fun p => (refBlk p.2).all fun n => nmem n (as ++ cs))) with
    | false => rw [hall0] at hf; cases hf
    | true =>
      rw [hall0] at hf
      obtain rfl := Option.some.inj hf
      rw [Bool.and_eq_true] at hall0
      obtain ⟨hltN, hall⟩ := hall0
      have halive : ∀ n, μ n ≠ .dead → n < N := by
        intro n hn
        cases hq : look r.b n with
        | none => exact absurd (h.mem.dead n hq) hn
        | some k =>
          obtain ⟨p, hp, _, e⟩ := look_mem hq
          have := List.all_eq_true.1 hltN p hp
          rw [e] at this
          exact Nat.le_of_ble_eq_true this
      refine ⟨fun n => if n ∈ as ++ cs ∧ (n < N) then μ n else .dead, h.size, h.dfr, fun i x hl => ?_, ?_⟩
      · obtain ⟨u, h1, h2⟩ := h.sl i none x (keepS_r hs i x hl)
        refine ⟨u, h1, ?_⟩
        have h2' : AVR w μ (Good R μ) x u := h2
        refine h2'.sub (fun n => n ∈ as ++ cs ∧ n < N) (fun b hb => ⟨?_, ?_⟩)
        · obtain ⟨p, hp, he, _⟩ := look_mem hl
          rw [List.mem_append]
          left
          rw [← ha]
          exact List.mem_flatMap.2 ⟨p, hp, by rw [he]; exact hb⟩
        · exact halive b (fun hd => h2'.dead_ref hd hb)
      · refine h.mem.sub (fun n => n ∈ as ++ cs ∧ n < N) (fun n k hk => ?_) (fun n hn hns => ?_)
        · simp only [look_keepB] at hk
          by_cases e : n < N ∧ n ∈ as ++ cs
          · rw [if_pos e] at hk
            refine ⟨⟨e.2, e.1⟩, k, hk, fun h => h, fun b hb => ⟨?_, ?_⟩⟩
            · obtain ⟨p, hp, he, _⟩ := look_mem (l := keepB N r.b (as ++ cs)) (i := n) (v := k) (by rw [look_keepB, if_pos e]; exact hk)
              have h1 := List.all_eq_true.1 hall p hp
              rw [he] at h1
              exact nmem_iff.1 (List.all_eq_true.1 h1 b hb)
            · refine halive b (fun hd => ?_)
              exact (h.mem.bl n k hk).dead_ref hd hb
          · rw [if_neg e] at hk; cases hk
        · simp only [look_keepB] at hn
          rw [if_pos ⟨hns.2, hns.1⟩] at hn
          exact hn
  · cases hf
end
end Go.Proofs.Ytoknhjmcoleejaa
