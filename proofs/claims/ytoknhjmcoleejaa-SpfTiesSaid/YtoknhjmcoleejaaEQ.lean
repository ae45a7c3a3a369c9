/- Regions, whole. No condition. -/
import Derived.Test.YtoknhjmcoleejaaEP
set_option linter.unusedVariables false
set_option linter.unusedSimpArgs false
namespace Go.Proofs.Ytoknhjmcoleejaa
open Go.RowKit
section
variable {R : RT} {P : Program} {w0 w w' : World} {N : Nat} {ops : Array Oper} {μ μ' : Nat → Gh} {r r2 : RS} {a : Act} {sig : List (Nat × Summary)}

theorem RRel.congr (h : RRel R w0 N ops μ r a w) (hs : ∀ q, look r2.s q = look r.s q) (hb : ∀ q, look r2.b q = look r.b q) : RRel R w0 N ops μ r2 a w :=
  ⟨h.size, h.dfr, fun i t x hl => h.sl i t x (by rw [← hs]; exact hl), ⟨fun n k hl => h.mem.bl n k (by rw [← hb]; exact hl), fun n hl => h.mem.dead n (by rw [← hb]; exact hl), h.mem.inj, h.mem.below, h.mem.res, h.mem.fsz, h.mem.frm⟩⟩
theorem TagEx.congr {ex : Nat → Prop} (h : TagEx ops r ex) (hs : ∀ q, look r2.s q = look r.s q) : TagEx ops r2 ex := fun i j t v hl => h i j t v (by rw [← hs]; exact hl)
def lst (listed : Array Bool) (i : Nat) : Bool := listed.getD i false
def left (n : Nat) (listed : Array Bool) : Nat := ((List.range n).filter fun i => !lst listed i).length
theorem lst_set {listed : Array Bool} {i : Nat} (hi : i < listed.size) (j : Nat) : lst (listed.setIfInBounds i true) j = (Nat.beq j i || lst listed j) := by
  unfold lst
  by_cases h : i = j
  · subst h
    simp [hi]
  · have hb : Nat.beq j i = false := by cases hb : Nat.beq j i with | false => rfl | true => exact absurd (Nat.eq_of_beq_eq_true hb).symm h
    rw [hb, Bool.false_or]
    exact getD_set_ne false h
theorem left_set {listed : Array Bool} {n i : Nat} (hn : listed.size = n) (hi : i < n) (hu : lst listed i = false) : left n listed = left n (listed.setIfInBounds i true) + 1 := by
  unfold left
  have key : ∀ (l : List Nat), l.Nodup → i ∈ l → (l.filter fun j => !lst listed j).length = (l.filter fun j => !lst (listed.setIfInBounds i true) j).length + 1 := by
    intro l
    induction l with
    | nil => intro _ h; cases h
    | cons x l ih =>
      intro hnd hm
      rw [List.nodup_cons] at hnd
      simp only [List.filter_cons, lst_set (hn ▸ hi : i < listed.size)]
      by_cases hx : x = i
      · subst hx
        simp only [hu, Nat.beq_refl, Bool.true_or, Bool.not_true, Bool.not_false, if_true, Bool.false_eq_true, if_false, List.length_cons]
        congr 2
        refine List.filter_congr fun j hj => ?_
        have : Nat.beq j x = false := by cases hb : Nat.beq j x with | false => rfl | true => exact absurd (Nat.eq_of_beq_eq_true hb ▸ hj) hnd.1
        rw [this]; rfl
      · have hb : Nat.beq x i = false := by cases hb : Nat.beq x i with | false => rfl | true => exact absurd (Nat.eq_of_beq_eq_true hb) hx
        have := ih hnd.2 (by rcases List.mem_cons.1 hm with h | h; exact absurd h.symm hx; exact h)
        simp only [lst_set (hn ▸ hi : i < listed.size)] at this
        rw [hb, Bool.false_or]
        cases lst listed x <;> simp [this]
  exact key _ List.nodup_range (by simpa using hi)
theorem ready_iff {listed : Array Bool} {i : Nat} (hn : listed.size = ops.size) : i ∈ Region.ready .any ops listed ↔ ∃ o, ops[i]? = some o ∧ lst listed i = false ∧ ∀ e, e ∈ depsOf o → lst listed e = true := by
  rw [mem_ready]
  have key : ∀ o, ops[i]? = some o → (listed.getD i true = lst listed i) := by
    intro o ho
    have : i < listed.size := by rw [hn]; exact (Array.getElem?_eq_some_iff.1 ho).1
    simp [lst, this]
  constructor
  · rintro ⟨h0, o, ho, h⟩
    refine ⟨o, ho, by rw [← key o ho]; exact h0, fun e he => ?_⟩
    simp only [depsOf, List.mem_map, List.mem_filter] at he
    obtain ⟨x, ⟨hx, hb⟩, rfl⟩ := he
    exact h x (by simpa using hx) hb
  · rintro ⟨o, ho, h0, h⟩
    exact ⟨by rw [key o ho]; exact h0, o, ho, fun e he hb => h e.on (by simp only [depsOf, List.mem_map, List.mem_filter]; exact ⟨e, ⟨by simpa using he, hb⟩, rfl⟩)⟩
theorem deps_below (hd : (List.range ops.size).all (depsBelow ops) = true) {i : Nat} {o : Oper} (ho : ops[i]? = some o) : (∀ e, e ∈ depsOf o → e < i) ∧ ∀ j t, o.guard = some (j, t) → j ∈ depsOf o := by
  have hi := (Array.getElem?_eq_some_iff.1 ho).1
  have := List.all_eq_true.1 hd i (by simpa using hi)
  unfold depsBelow at this
  rw [ho] at this
  simp only [Bool.and_eq_true] at this
  refine ⟨fun e he => Nat.le_of_ble_eq_true (List.all_eq_true.1 this.1 e he), fun j t hg => ?_⟩
  have h2 := this.2
  rw [hg] at h2
  exact nmem_iff.1 h2

/-- The chain: from an operation on, each behind all ahead of it. -/
theorem chain_snd (tok : TOK P) (hsig : SigOK P sig) (hg : guardsOk ops = true) (hd : (List.range ops.size).all (depsBelow ops) = true) {Q : Exit → Act → World → Prop} :
    ∀ (d n : Nat) (listed : Array Bool) (μ : Nat → Gh) (r : RS) (a : Act) (w : World) (cs : List Bool) (r' : RS), n + d = ops.size → listed.size = ops.size → (∀ i, i < ops.size → (lst listed i = true ↔ i < n)) →
    (∀ j, n ≤ j → j < ops.size → allSet ((ancs ops.toList).getD j 0) j = true) → TagEx ops r (· < n) → RRel R w0 N ops μ r a w → evIdx sig N ops ((List.range ops.size).drop n) r = some (cs, r') → cs.all id = true →
    (∀ a' w' μ', RRel R w0 N ops μ' r' a' w' → Q .normal a' w') → wpAny P .any ops Q d listed a w
  | 0, n, listed, μ, r, a, w, cs, r', hnd, hsz, hl, hall, ht, hr, h, hcs, hQ => by
    have hn : n = ops.size := by omega
    subst hn
    have hready : Region.ready .any ops listed = [] := by
      rw [List.eq_nil_iff_forall_not_mem]
      intro i hi
      obtain ⟨o, ho, h0, _⟩ := (ready_iff hsz).1 hi
      have hlt := (Array.getElem?_eq_some_iff.1 ho).1
      rw [(hl i hlt).2 hlt] at h0
      cases h0
    have hnil : (List.range ops.size).drop ops.size = [] := by simp
    rw [hnil] at h
    simp only [evIdx, Option.some.injEq, Prod.mk.injEq] at h
    obtain ⟨_, rfl⟩ := h
    exact ⟨hready, hQ a w μ hr⟩
  | d + 1, n, listed, μ, r, a, w, cs, r', hnd, hsz, hl, hall, ht, hr, h, hcs, hQ => by
    have hn : n < ops.size := by omega
    have ho : ops[n]? = some ops[n] := Array.getElem?_eq_getElem hn
    have hdb := deps_below hd ho
    have hready : ∀ i, i ∈ Region.ready .any ops listed ↔ i = n := by
      intro i
      rw [ready_iff hsz]
      constructor
      · rintro ⟨o, hoi, h0, hdep⟩
        have hi := (Array.getElem?_eq_some_iff.1 hoi).1
        have hge : n ≤ i := by
          rcases Nat.lt_or_ge i n with h | h
          · rw [(hl i hi).2 h] at h0; cases h0
          · exact h
        rcases Nat.lt_or_ge n i with hlt | hle
        · exfalso
          have hcl : Cl ops (lst listed) := by
            intro k o' hk hlk e he
            have hkl := (Array.getElem?_eq_some_iff.1 hk).1
            have := (hl k hkl).1 hlk
            have hek := (deps_below hd hk).1 e he
            exact (hl e (by omega)).2 (by omega)
          have hb := allSet_r (hall i hge hi) n hlt
          have := anc_listed hd hcl i o n hoi hdep hb
          have := (hl n hn).1 this
          omega
        · omega
      · rintro rfl
        refine ⟨_, ho, ?_, fun e he => (hl e (by have := hdb.1 e he; omega)).2 (hdb.1 e he)⟩
        cases hq : lst listed i with
        | false => rfl
        | true => have := (hl i hn).1 hq; omega
    have hdrop : (List.range ops.size).drop n = n :: (List.range ops.size).drop (n + 1) := by
      rw [List.drop_eq_getElem_cons (by simpa using hn)]
      simp
    rw [hdrop] at h
    simp only [evIdx, ho] at h
    refine ⟨fun he => absurd ((hready n).2 rfl) (by rw [he]; simp), fun i hi => ?_⟩
    have hin := (hready i).1 hi
    subst hin
    split at h
    · rename_i c1 r1 x h1
      split at h
      · rename_i ds r2 h2
        simp only [Option.some.injEq, Prod.mk.injEq] at h
        obtain ⟨rfl, rfl⟩ := h
        rw [List.all_append, Bool.and_eq_true] at hcs
        have ht1 : TagEx ops r1 (· < i + 1) := by
          rw [evStep_shape h1]
          have := tagEx_after ht ho x (fun j t hgd => (guardsOk_r hg ho hgd).1)
          exact fun q j t v hl => by
            obtain ⟨h3, h4⟩ := this q j t v hl
            exact ⟨by rcases h3 with h3 | h3 <;> omega, h4⟩
        have hst := step_snd (K := wpAny P .any ops Q d (listed.setIfInBounds i true)) (Q := Q) tok hsig hr h1 hcs.1 (tag_clear hg ht ho (by omega))
          (fun a' w' μ' hr' => chain_snd tok hsig hg hd d (i + 1) (listed.setIfInBounds i true) μ' r1 a' w' ds r2 (by omega) (by simpa using hsz)
            (fun j hj => by
              rw [lst_set (by rw [hsz]; exact hn), Bool.or_eq_true, hl j hj]
              constructor
              · rintro (h | h)
                · have := Nat.eq_of_beq_eq_true h; omega
                · omega
              · intro h
                rcases Nat.lt_or_ge j i with h' | h'
                · exact .inr h'
                · have : j = i := by omega
                  subst this
                  exact .inl (Nat.beq_refl _))
            (fun j h3 h4 => hall j (by omega) h4) ht1 hr' h2 hcs.2 hQ)
        unfold wpOp
        rw [ho]
        dsimp only
        split
        · rename_i hw; rw [if_pos hw] at hst; exact .inl hst
        · rename_i hw; rw [if_neg hw] at hst; exact hst
      · cases h
    · cases h

theorem pairOk_r {ms : List Nat} : ∀ {its : List Item}, pairOk ms its = true → ∀ pre a post, its = pre ++ a :: post → ∀ b, b ∈ post → (ms.getD b.i 0).testBit a.i = true ∨ conf a.f b.f = false
  | [], _, pre, a, post, e, b, hb => by simp at e
  | x :: its, h, pre, a, post, e, b, hb => by
    simp only [pairOk, Bool.and_eq_true] at h
    cases pre with
    | nil =>
      simp only [List.nil_append, List.cons.injEq] at e
      obtain ⟨rfl, rfl⟩ := e
      have := List.all_eq_true.1 h.1 b hb
      simpa using this
    | cons p pre =>
      simp only [List.cons_append, List.cons.injEq] at e
      obtain ⟨rfl, rfl⟩ := e
      exact pairOk_r h.2 pre a post rfl b hb

/-- The first operations, in whatever order; then the chain. -/
theorem first_snd (tok : TOK P) (hsig : SigOK P sig) (hg : guardsOk ops = true) (hd : (List.range ops.size).all (depsBelow ops) = true) {Q : Exit → Act → World → Prop} {r0 r1 : RS} {its : List Item} {cs : List Bool} {m : Nat} (hm : m ≤ ops.size)
    (hall : ∀ j, m ≤ j → j < ops.size → allSet ((ancs ops.toList).getD j 0) j = true) (hits : evItems sig N ops (List.range m) r0 = some (cs, r1, its)) (hpair : pairOk (ancs ops.toList) its = true) (hcs : cs.all id = true) (ht0 : TagEx ops r0 (fun _ => False))
    (hlast : ∀ (listed : Array Bool) (μ : Nat → Gh) (a : Act) (w : World), listed.size = ops.size → (∀ i, i < ops.size → (lst listed i = true ↔ i < m)) → RRel R w0 N ops μ r1 a w → TagEx ops r1 (· < m) → wpAny P .any ops Q (ops.size - m) listed a w) :
    ∀ (fuel : Nat) (listed : Array Bool) (μ : Nat → Gh) (a : Act) (w : World), listed.size = ops.size → left ops.size listed = fuel → Cl ops (lst listed) → (∀ i, i < ops.size → lst listed i = true → i < m) → TagEx ops (msk its (lst listed) r0) (fun i => lst listed i = true) →
    RRel R w0 N ops μ (msk its (lst listed) r0) a w → wpAny P .any ops Q fuel listed a w := by
  obtain ⟨q1, q2, q3⟩ := evItems_r hits
  have hkl : ∀ b, b ∈ its → b.x.kl = [] := by
    intro b hb
    obtain ⟨pre, post, e⟩ := List.append_of_mem hb
    exact (q3 pre b post e).kl
  have hidx : ∀ b, b ∈ its → b.i < m := by
    intro b hb
    have : b.i ∈ its.map (·.i) := List.mem_map_of_mem hb
    rw [q1] at this
    simpa using this
  intro fuel
  induction fuel with
  | zero =>
    intro listed μ a w hsz hfuel hcl hlm ht hr
    have hfull : ∀ i, i < ops.size → lst listed i = true := by
      intro i hi
      cases hq : lst listed i with
      | true => rfl
      | false =>
        have : i ∈ (List.range ops.size).filter fun i => !lst listed i := by simp [hi, hq]
        unfold left at hfuel
        rw [List.eq_nil_of_length_eq_zero hfuel] at this
        cases this
    have hmn : m = ops.size := by
      rcases Nat.lt_or_ge m ops.size with h | h
      · have := hlm m h (hfull m h); omega
      · omega
    have heq : ∀ l, get (msk its (lst listed) r0) l = get r1 l := by
      intro l
      rw [← q2]
      exact msk_agree its r0 r0 hkl rfl (fun b hb _ => by rw [hfull b.i (by have := hidx b hb; omega)])
    have h0 : ops.size - m = 0 := by omega
    have := hlast listed μ a w hsz (fun i hi => ⟨hlm i hi, fun _ => hfull i hi⟩) (hr.congr (fun q => (get_s1 (heq (true, q))).symm) (fun q => (get_b1 (heq (false, q))).symm))
      (by
        have h1 := ht.congr (r2 := r1) (fun q => (get_s1 (heq (true, q))).symm)
        exact fun q j t v hl => by
          obtain ⟨h2, k, o, h3⟩ := h1 q j t v hl
          have : j < ops.size := by
            unfold lst at h2
            rcases Nat.lt_or_ge j listed.size with h | h
            · omega
            · simp [Array.getElem?_eq_none h] at h2
          exact ⟨by omega, k, o, h3⟩)
    rw [h0] at this
    exact this
  | succ fuel ih =>
    intro listed μ a w hsz hfuel hcl hlm ht hr
    by_cases hfull : ∀ i, i < m → lst listed i = true
    · -- the chain begins
      have heq : ∀ l, get (msk its (lst listed) r0) l = get r1 l := by
        intro l
        rw [← q2]
        exact msk_agree its r0 r0 hkl rfl (fun b hb _ => by rw [hfull b.i (hidx b hb)])
      have hleft : left ops.size listed = ops.size - m := by
        unfold left
        have : (List.range ops.size).filter (fun i => !lst listed i) = (List.range ops.size).drop m := by
          have hsplit : List.range ops.size = (List.range ops.size).take m ++ (List.range ops.size).drop m := (List.take_append_drop _ _).symm
          rw [hsplit, List.filter_append]
          have e1 : ((List.range ops.size).take m).filter (fun i => !lst listed i) = [] := by
            rw [List.filter_eq_nil_iff]
            intro i hi
            rw [List.take_range] at hi
            have : i < m := by have := List.mem_range.1 hi; omega
            simp [hfull i this]
          have e2 : ((List.range ops.size).drop m).filter (fun i => !lst listed i) = (List.range ops.size).drop m := by
            rw [List.filter_eq_self]
            intro i hi
            obtain ⟨k, hk, e⟩ := List.getElem_of_mem hi
            simp only [List.getElem_drop, List.getElem_range] at e
            simp only [List.length_drop, List.length_range] at hk
            cases hq : lst listed i with
            | false => rfl
            | true => have := hlm i (by omega) hq; omega
          rw [e1, e2, List.nil_append, ← hsplit]
        rw [this]
        simp
      rw [← hfuel, hleft]
      refine hlast listed μ a w hsz (fun i hi => ⟨hlm i hi, fun h => hfull i h⟩) (hr.congr (fun q => (get_s1 (heq (true, q))).symm) (fun q => (get_b1 (heq (false, q))).symm)) ?_
      have h1 := ht.congr (r2 := r1) (fun q => (get_s1 (heq (true, q))).symm)
      exact fun q j t v hl => by
        obtain ⟨h2, k, o, h3⟩ := h1 q j t v hl
        have : j < ops.size := by
          unfold lst at h2
          rcases Nat.lt_or_ge j listed.size with h | h
          · omega
          · simp [Array.getElem?_eq_none h] at h2
        exact ⟨hlm j this h2, k, o, h3⟩
    · -- some are left
      have hex : ∃ i, i < m ∧ lst listed i = false := by
        have := Classical.not_forall.1 hfull
        obtain ⟨i, hi⟩ := this
        have hi' := Classical.not_imp.1 hi
        exact ⟨i, hi'.1, by cases hq : lst listed i with | false => rfl | true => exact absurd hq hi'.2⟩
      have hleast : ∃ i, i < m ∧ lst listed i = false ∧ ∀ j, j < i → lst listed j = true := by
        obtain ⟨i, hi1, hi2⟩ := hex
        induction i using Nat.strongRecOn with
        | _ i ihi =>
          by_cases h : ∃ j, j < i ∧ lst listed j = false
          · obtain ⟨j, hj1, hj2⟩ := h
            exact ihi j hj1 (by omega) hj2
          · exact ⟨i, hi1, hi2, fun j hj => by cases hq : lst listed j with | true => rfl | false => exact absurd ⟨j, hj, hq⟩ h⟩
      refine ⟨fun he => ?_, fun i hi => ?_⟩
      · exfalso
        obtain ⟨i, h1, h2, h3⟩ := hleast
        have ho : ops[i]? = some (ops[i]'(by omega)) := Array.getElem?_eq_getElem (by omega)
        have : i ∈ Region.ready .any ops listed := (ready_iff hsz).2 ⟨_, ho, h2, fun e he => h3 e ((deps_below hd ho).1 e he)⟩
        rw [he] at this
        cases this
      · obtain ⟨o, ho, hui, hdeps⟩ := (ready_iff hsz).1 hi
        have hin := (Array.getElem?_eq_some_iff.1 ho).1
        have him : i < m := by
          rcases Nat.lt_or_ge i m with h | h
          · exact h
          · exfalso
            obtain ⟨q, hq1, hq2⟩ := hex
            have hb := allSet_r (hall i h hin) q (by omega)
            rw [anc_listed hd hcl i o q ho hdeps hb] at hq2
            cases hq2
        -- the item of this operation
        have hmem : ∃ b, b ∈ its ∧ b.i = i := by
          have : i ∈ its.map (·.i) := by rw [q1]; simpa using him
          obtain ⟨b, hb1, hb2⟩ := List.mem_map.1 this
          exact ⟨b, hb1, hb2⟩
        obtain ⟨b, hb, hbi⟩ := hmem
        obtain ⟨pre, post, hsplit⟩ := List.append_of_mem hb
        have hok := q3 pre b post hsplit
        obtain ⟨o', c', r'', e1, e2, e3, e4, e5, e6⟩ := hok.ev
        rw [hbi, ho] at e1
        obtain rfl := Option.some.inj e1
        have hnd : (its.map (·.i)).Nodup := by rw [q1]; exact List.nodup_range
        have hpost : ∀ c, c ∈ post → b.i < c.i := by
          intro c hc
          have hsorted : (its.map (·.i)).Pairwise (· < ·) := by rw [q1]; exact List.pairwise_lt_range
          rw [hsplit, List.map_append, List.map_cons, List.pairwise_append, List.pairwise_cons] at hsorted
          exact hsorted.2.1.1 c.i (List.mem_map_of_mem hc)
        have hpre : ∀ c, c ∈ pre → c.i < b.i := by
          intro c hc
          have hsorted : (its.map (·.i)).Pairwise (· < ·) := by rw [q1]; exact List.pairwise_lt_range
          rw [hsplit, List.map_append, List.map_cons, List.pairwise_append] at hsorted
          exact hsorted.2.2 c.i (List.mem_map_of_mem hc) b.i (by simp)
        have hitem : ∀ c, c ∈ its → ∃ oc rc, ops[c.i]? = some oc ∧ c.d = oc.dst ∧ c.f = fpOf ops rc oc c.x := by
          intro c hc
          obtain ⟨p1, p2, e⟩ := List.append_of_mem hc
          obtain ⟨oc, _, _, g1, _, _, _, g2, g3⟩ := (q3 p1 c p2 e).ev
          exact ⟨oc, _, g1, g2, g3⟩
        have hwr : ∀ c, c ∈ its → ∀ l, l ∈ wof c.d c.x ↔ wrp c.f l := by
          intro c hc l
          obtain ⟨oc, rc, _, g2, g3⟩ := hitem c hc
          rw [g2, g3]
          exact wof_fp
        have hpin : ∀ c, c ∈ pre → c ∈ its := fun c hc => by rw [hsplit]; simp [hc]
        have hqin : ∀ c, c ∈ post → c ∈ its := fun c hc => by rw [hsplit]; simp [hc]
        -- listed ones behind it do not meet it
        have hafter : ∀ c, c ∈ post → lst listed c.i = true → conf b.f c.f = false := by
          intro c hc hlc
          rcases pairOk_r hpair pre b post hsplit c hc with h | h
          · exfalso
            obtain ⟨oc, _, g1, _⟩ := hitem c (hqin c hc)
            have := anc_listed hd hcl c.i oc b.i g1 (fun e he => hcl c.i oc g1 hlc e he) h
            rw [hbi, hui] at this
            cases this
          · exact h
        have hbefore : ∀ c, c ∈ pre → lst listed c.i = false → conf c.f b.f = false := by
          intro c hc hlc
          obtain ⟨p1, p2, e⟩ := List.append_of_mem hc
          have e' : its = p1 ++ c :: (p2 ++ b :: post) := by rw [hsplit, e]; simp
          rcases pairOk_r hpair p1 c (p2 ++ b :: post) e' b (by simp) with h | h
          · exfalso
            rw [hbi] at h
            have := anc_listed hd hcl i o c.i ho hdeps h
            rw [hlc] at this
            cases this
          · exact h
        -- what it reads is as in the text's order
        have hread : ∀ l, rdp b.f l → get (msk its (lst listed) r0) l = get (msk pre (fun _ => true) r0) l := by
          intro l hl
          rw [hsplit, msk_append]
          simp only [msk]
          rw [hbi, hui]
          simp only [cond_false]
          rw [msk_out post _ (fun c hc => hkl c (hqin c hc)) (fun c hc hlc hw => ?_)]
          · exact msk_agree pre r0 r0 (fun c hc => hkl c (hpin c hc)) rfl (fun c hc hw => by
              cases hlc : lst listed c.i with
              | true => rfl
              | false => exact absurd hl ((conf_no (hbefore c hc hlc) l).1 ((hwr c (hpin c hc) l).1 hw)).1)
          · exact (conf_no (hafter c hc hlc) l).2 ((hwr c (hqin c hc) l).1 hw) hl
        have hstep := evStep_congr (r2 := msk its (lst listed) r0) e2
          (fun t htt => get_s1 (hread (true, t) (.inl ⟨rfl, by rw [e6]; exact htt⟩)))
          (fun t htt => get_b1 (hread (false, t) (.inr ⟨rfl, by rw [e6]; exact htt⟩)))
        have hcs' : c'.all id = true := by
          rw [List.all_eq_true]
          intro q hq
          have := List.all_eq_true.1 hcs q (e3 q hq)
          exact this
        -- behind it
        have hset : ∀ j, lst (listed.setIfInBounds i true) j = (Nat.beq j i || lst listed j) := lst_set (by omega)
        have hnew : ∀ l, get (msk its (lst (listed.setIfInBounds i true)) r0) l = get (after (msk its (lst listed) r0) o.guard o.dst b.x) l := by
          intro l
          rw [← e4, ← e5]
          by_cases hw : l ∈ wof b.d b.x
          · rw [after_in (r2 := msk pre (lst (listed.setIfInBounds i true)) r0) hok.kl hw]
            rw [hsplit, msk_append]
            simp only [msk]
            rw [hset b.i, hbi, Nat.beq_refl]
            simp only [Bool.true_or, cond_true]
            rw [msk_out post _ (fun c hc => hkl c (hqin c hc)) (fun c hc hlc hwc => ?_)]
            rw [hset] at hlc
            have hne : Nat.beq c.i i = false := by
              have := hpost c hc
              cases hq : Nat.beq c.i i with
              | false => rfl
              | true => have := Nat.eq_of_beq_eq_true hq; omega
            rw [hne, Bool.false_or] at hlc
            exact ((conf_no (hafter c hc hlc) l).1 ((hwr b hb l).1 hw)).2 ((hwr c (hqin c hc) l).1 hwc)
          · rw [after_out hok.kl hw]
            refine msk_agree its r0 r0 hkl rfl (fun c hc hwc => ?_)
            rw [hset]
            have : Nat.beq c.i i = false := by
              cases hq : Nat.beq c.i i with
              | false => rfl
              | true =>
                exfalso
                have hci := Nat.eq_of_beq_eq_true hq
                -- one item a number
                have : c = b := by
                  rw [hsplit] at hc
                  rcases List.mem_append.1 hc with h | h
                  · have := hpre c h; omega
                  · rcases List.mem_cons.1 h with h | h
                    · exact h
                    · have := hpost c h; omega
                subst this
                exact hw hwc
            rw [this, Bool.false_or]
        have htagnew : TagEx ops (msk its (lst (listed.setIfInBounds i true)) r0) (fun j => lst (listed.setIfInBounds i true) j = true) := by
          have h1 := tagEx_after ht ho b.x (fun j t hgd => hdeps j ((deps_below hd ho).2 j t hgd))
          have h2 := h1.congr (r2 := msk its (lst (listed.setIfInBounds i true)) r0) (fun q => get_s1 (hnew (true, q)))
          exact fun q j t v hl => by
            obtain ⟨h3, h4⟩ := h2 q j t v hl
            refine ⟨?_, h4⟩
            show lst (listed.setIfInBounds i true) j = true
            rw [hset]
            rcases h3 with h3 | h3
            · rw [h3, Nat.beq_refl]; rfl
            · rw [h3, Bool.or_true]
        have hclnew : Cl ops (lst (listed.setIfInBounds i true)) := by
          intro k ok hk hlk e he
          rw [hset] at hlk ⊢
          rw [Bool.or_eq_true] at hlk ⊢
          right
          rcases hlk with h | h
          · have := Nat.eq_of_beq_eq_true h
            subst this
            rw [ho] at hk
            obtain rfl := Option.some.inj hk
            exact hdeps e he
          · exact hcl k ok hk h e he
        have hleftnew : left ops.size (listed.setIfInBounds i true) = fuel := by
          have := left_set hsz hin hui
          omega
        have hst := step_snd (K := wpAny P .any ops Q fuel (listed.setIfInBounds i true)) (Q := Q) tok hsig hr hstep hcs' (tag_clear hg ht ho (by rw [hui]; simp))
          (fun a' w' μ' hr' => ih (listed.setIfInBounds i true) μ' a' w' (by simpa using hsz) hleftnew hclnew
            (fun j hj hlj => by
              rw [hset, Bool.or_eq_true] at hlj
              rcases hlj with h | h
              · have := Nat.eq_of_beq_eq_true h; omega
              · exact hlm j hj h)
            htagnew (hr'.congr (fun q => get_s1 (hnew (true, q))) (fun q => get_b1 (hnew (false, q)))))
        unfold wpOp
        rw [ho]
        dsimp only
        split
        · rename_i hw; rw [if_pos hw] at hst; exact .inl hst
        · rename_i hw; rw [if_neg hw] at hst; exact hst
end
end Go.Proofs.Ytoknhjmcoleejaa
