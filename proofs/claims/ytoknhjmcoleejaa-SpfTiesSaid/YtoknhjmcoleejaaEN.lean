/- One operation with its guard, then a list of them. No condition. -/
import Derived.Test.YtoknhjmcoleejaaEM
set_option linter.unusedVariables false
set_option linter.unusedSimpArgs false
namespace Go.Proofs.Ytoknhjmcoleejaa
open Go.RowKit
section
variable {R : RT} {P : Program} {w0 w w' : World} {N : Nat} {ops : Array Oper} {μ μ' : Nat → Gh} {r : RS} {a : Act} {ch : List (Nat × Bool)} {o : Oper} {sig : List (Nat × Summary)}

theorem all_cond {l : List Bool} (h : l.all id = true) {b : Bool} (hb : b ∈ l) : b = true := by simpa using List.all_eq_true.1 h b hb
set_option maxHeartbeats 1000000 in
theorem evOp_snd (c : Ctx P R w0 N ops μ r a w ch) (hsig : SigOK P sig) {x : OR} (h : evOp sig r ch o = some x) (hcs : x.cs.all id = true) (hfree : ∀ k, x.nb = some k → ∀ d, o.dst = some d → look r.b d = none) : Snd P R w0 r o x μ a w := by
  unfold evOp at h
  split at h
  · rename_i y hop
    split at h
    · rename_i v hv; obtain rfl := Option.some.inj h; exact snd_move c (.inl hop) hv
    · cases h
  · rename_i y hop
    split at h
    · rename_i v hv; obtain rfl := Option.some.inj h; exact snd_move c (.inr hop) hv
    · cases h
  · rename_i t hop
    split at h
    · rename_i tt d hT hd; obtain rfl := Option.some.inj h; exact snd_alloc c hop (hfree _ rfl d hd) hd hT
    · cases h
  · rename_i t y hop
    split at h
    · rename_i v d hv hd
      cases hf : fits t v with
      | false => rw [hf] at h; cases h
      | true => rw [hf] at h; obtain rfl := Option.some.inj h; exact snd_box c hop (hfree _ rfl d hd) hd hv
    · cases h
  · rename_i t ps hop; exact snd_build c hop h
  · rename_i t n ps hop
    have h' := h
    unfold evBuildSlice at h'
    split at h'
    · rename_i k vs d hk hp hd
      have hx : ∃ bk, x.nb = some bk := by
        cases hb : (Nat.beq vs.length n && Nat.ble n 64) with
        | false => rw [hb] at h'; cases h'
        | true =>
          rw [hb, cond_true] at h'
          cases hdk : deepK k with
          | true =>
            rw [hdk, cond_true] at h'
            split at h'
            · have e := Option.some.inj h'; exact ⟨_, by rw [← e]⟩
            · cases h'
          | false =>
            rw [hdk, cond_false] at h'
            split at h'
            · have e := Option.some.inj h'; exact ⟨_, by rw [← e]⟩
            · cases h'
      obtain ⟨bk, hx⟩ := hx
      rw [hd] at h
      exact snd_buildSlice c hop (hfree bk hx d hd) hd h
    · cases h'
  · rename_i t p hop
    split at h
    · rename_i v hv
      split at h
      · rename_i z hz
        obtain rfl := Option.some.inj h
        exact snd_take c hop hv hz hcs hfree
      · exact snd_load c hop hv h hcs
    · cases h
  · rename_i t p y hop
    split at h
    · rename_i v u hv hu hd
      split at h
      · rename_i z hz
        obtain rfl := Option.some.inj h
        exact snd_fill c hop hd hv hu hz hcs
      · exact snd_store c hop hd hv hu h hcs
    · cases h
  · rename_i t hop
    split at h
    · rename_i d ht hd; obtain rfl := Option.some.inj h; exact snd_makeMap c hop (hfree _ rfl d hd) hd (.inl rfl)
    · rename_i d ht hd; obtain rfl := Option.some.inj h; exact snd_makeMap c hop (hfree _ rfl d hd) hd (.inr rfl)
    · cases h
  · rename_i t m k e hop
    split at h
    · rename_i m' k' e' hm hk he hd; exact snd_putM c (.inl hop) hd hm hk he h
    · cases h
  · rename_i t m k e hop
    split at h
    · rename_i m' k' e' hm hk he hd; exact snd_putM c (.inr hop) hd hm hk he h
    · cases h
  · rename_i t m k cc hop
    split at h
    · rename_i m' k' hm hk; exact snd_lookM c hop hm hk h
    · cases h
  · rename_i op t y z t' hop
    split at h
    · rename_i v u hv hu; exact snd_bin c hop hv hu h hcs
    · cases h
  · rename_i t y hop
    split at h
    · rename_i b hv; obtain rfl := Option.some.inj h; exact snd_not c hop hv
    · cases h
  · rename_i t y hop
    split at h
    · rename_i k n hv; obtain rfl := Option.some.inj h; exact snd_neg c hop hv
    · cases h
  · rename_i s t y hop
    split at h
    · rename_i k n k1 m1 z1 k2 m2 z2 hv hs ht; obtain rfl := Option.some.inj h; exact snd_convert c hop hv hs ht
    · cases h
  · rename_i f fst caps hop
    split at h
    · rename_i vs hvs hf
      split at h
      · rename_i l hl; obtain rfl := Option.some.inj h; exact snd_makeFunc c hop hf hvs hl
      · cases h
    · cases h
  · rename_i t n m hop
    split at h
    · rename_i n' m' k d hn hm hk hd
      obtain rfl := Option.some.inj h
      have h1 : (n' == m') = true := all_cond hcs (by simp)
      have h2 : decide (0 ≤ n') = true := all_cond hcs (by simp)
      have h3 : roomy 0 n'.toNat (bytesT k) = true := all_cond hcs (by simp)
      exact snd_makeSlice c hop (hfree _ rfl d hd) hd hn hm hk h1 (of_decide_eq_true h2) h3
    · cases h
  · rename_i t y lo hi hop
    split at h
    · rename_i v hh hv
      split at h
      · rename_i u hu; exact snd_slice c hop hv hu h hcs
      · cases h
    · cases h
  · rename_i s y f hop
    split at h
    · rename_i v hv; exact snd_field c hop hv h
    · cases h
  · rename_i t y i hop
    split at h
    · rename_i v u hv hu; exact snd_index c hop hv hu h hcs
    · cases h
  · rename_i y i hop
    split at h
    · rename_i l hl
      split at h
      · rename_i v hv; obtain rfl := Option.some.inj h; exact snd_extract c hop hl hv
      · cases h
    · cases h
  · rename_i cl hop
    split at h
    · rename_i y hb hv
      split at h
      · rename_i n rb t hl ht
        split at h
        · rename_i k hk; obtain rfl := Option.some.inj h; exact snd_len c hop hb hv hl ht hk
        · cases h
      · cases h
    · rename_i s y hb hv
      split at h
      · rename_i t t' ht
        cases htt : Nat.beq t t' with
        | false => rw [htt] at h; cases h
        | true =>
          rw [htt, cond_true] at h
          split at h
          · rename_i z hz
            obtain rfl := Option.some.inj h
            exact snd_appendD c hop hb hv ht htt hz hcs hfree
          · exact snd_append c hop hb hv ht htt h hcs hfree
      · cases h
    · rename_i y z hb hv; obtain rfl := Option.some.inj h; exact snd_min c hop hb hv
    · rename_i y z hb hv; obtain rfl := Option.some.inj h; exact snd_max c hop hb hv
    · rename_i f as hb hv; exact snd_call c hsig hop hb hv h hcs hfree
    · rename_i t as hb hv
      split at h
      · rename_i f l hf; exact snd_callv c hsig hop hb hf hv h hcs hfree
      · cases h
    · cases h
  · cases h

/-! ### the state behind an operation -/
theorem yielded_put {d : Option Nat} {u : Value} {j : Nat} (h : ∀ e, dstOf ops j = some e → d ≠ some e) : yielded ops (a.put d u).tmps j = yielded ops a.tmps j := by
  unfold yielded
  cases hd : (ops[j]?).bind (·.dst) with
  | none => rfl
  | some e =>
    have := h e hd
    cases d with
    | none => rfl
    | some d =>
      have hne : d ≠ e := fun h => this (by rw [h])
      simp [Act.put, Array.getElem?_setIfInBounds_ne hne]
theorem rrel_after (hr : RRel R w0 N ops μ r a w) {x : OR} {u : Value} (hm : mayPut N r x o.dst = true) (hp : OpPost R w0 r o.dst x μ w u μ' w') (tag : Tag) (htag : ∀ j t, tag = some (j, t) → yielded ops a.tmps j = some t ∧ ∀ e, dstOf ops j = some e → o.dst ≠ some e)
    (hclear : ∀ i j t v d, look r.s i = some (some (j, t), v) → o.dst = some d → dstOf ops j ≠ some d) : RRel R w0 N ops μ' (after r tag o.dst x) (a.put o.dst u) w' := by
  have hold : ∀ i t v, look (killL x.kl r).s i = some (t, v) → ∃ v0, look r.s i = some (t, v0) ∧ v = killLV x.kl v0 := by
    intro i t v h
    rw [look_killL_s] at h
    cases hl : look r.s i with
    | none => rw [hl] at h; cases h
    | some p =>
      rw [hl] at h
      simp only [Option.map_some, Option.some.injEq, Prod.mk.injEq] at h
      exact ⟨p.2, by rw [← h.1], h.2.symm⟩
  cases hd : o.dst with
  | none =>
    rw [hd] at hp
    refine ⟨hr.size, hr.dfr, fun i t v h => ?_, ?_⟩
    · simp only [after] at h
      obtain ⟨v0, h1, h2⟩ := hold i t v h
      obtain ⟨u0, h3, h4⟩ := hr.sl i t v0 h1
      refine ⟨u0, h3, ?_⟩
      subst h2
      cases t with
      | none => exact hp.keep _ _ h4
      | some jt => exact h4.imp (fun h => ⟨h.1, hp.keep _ _ h.2⟩) id
    · have := hp.mem
      exact this
  | some d =>
    rw [hd] at hp hm htag
    replace hclear := fun i j t v h => hclear i j t v d h hd
    simp only [mayPut, Bool.and_eq_true] at hm
    have hlt : d < N := by have := hm.1; exact Nat.le_of_ble_eq_true this
    refine ⟨by simp [Act.put, hr.size], by simp [Act.put, hr.dfr], fun i t v h => ?_, ?_⟩
    · simp only [after, look_put] at h
      by_cases e : i = d
      · subst e
        simp only [if_true, Option.some.injEq, Prod.mk.injEq] at h
        obtain ⟨rfl, rfl⟩ := h
        refine ⟨u, by simp [Act.put, hr.size, hlt], ?_⟩
        cases tag with
        | none => exact hp.val i rfl
        | some jt =>
          obtain ⟨j, tt⟩ := jt
          obtain ⟨q1, q2⟩ := htag j tt rfl
          exact .inl ⟨by rw [yielded_put q2]; exact q1, hp.val i rfl⟩
      · rw [if_neg e] at h
        obtain ⟨v0, h1, h2⟩ := hold i t v h
        obtain ⟨u0, h3, h4⟩ := hr.sl i t v0 h1
        refine ⟨u0, by simp [Act.put, Array.getElem?_setIfInBounds_ne (Ne.symm e), h3], ?_⟩
        subst h2
        cases t with
        | none => exact hp.keep _ _ h4
        | some jt =>
          obtain ⟨j, tt⟩ := jt
          have hy : yielded ops (a.put (some d) u).tmps j = yielded ops a.tmps j := yielded_put (fun e he h => hclear i j tt v0 h1 (by rw [he]; cases h; rfl))
          rcases h4 with h4 | h4
          · exact .inl ⟨by rw [hy]; exact h4.1, hp.keep _ _ h4.2⟩
          · exact .inr ⟨by rw [hy]; exact h4.1, h4.2⟩
    · have := hp.mem
      exact this
/-- Under a guard that is not met the slot is left. -/
theorem rrel_skip (hr : RRel R w0 N ops μ r a w) {x : OR} (hm : mayPut N r x o.dst = true) (he : isEff x = false) {j : Nat} {t : Bool} (hy : yielded ops a.tmps j ≠ some t) (hj : ∀ e, dstOf ops j = some e → o.dst ≠ some e)
    (hclear : ∀ i j t v d, look r.s i = some (some (j, t), v) → o.dst = some d → dstOf ops j ≠ some d) : RRel R w0 N ops μ (after r (some (j, t)) o.dst x) (a.put o.dst undef) w := by
  unfold isEff at he
  simp only [Bool.or_eq_false_iff, Bool.not_eq_false'] at he
  obtain ⟨⟨h1, h2⟩, h3⟩ := he
  have e1 : x.nb = none := by cases hn : x.nb with | none => rfl | some _ => rw [hn] at h1; cases h1
  have e2 : x.wb = [] := by cases hn : x.wb with | nil => rfl | cons _ _ => rw [hn] at h2; cases h2
  have e3 : x.kl = [] := by cases hn : x.kl with | nil => rfl | cons _ _ => rw [hn] at h3; cases h3
  unfold after
  rw [e1, e2, e3]
  cases hd : o.dst with
  | none => exact ⟨hr.size, hr.dfr, hr.sl, hr.mem⟩
  | some d =>
    rw [hd] at hm hj
    replace hclear := fun i j t v h => hclear i j t v d h hd
    simp only [mayPut, Bool.and_eq_true] at hm
    have hlt : d < N := by have := hm.1; exact Nat.le_of_ble_eq_true this
    refine ⟨by simp [Act.put, hr.size], by simp [Act.put, hr.dfr], fun i t' v h => ?_, hr.mem⟩
    simp only [look_put] at h
    by_cases e : i = d
    · subst e
      simp only [if_true, Option.some.injEq, Prod.mk.injEq] at h
      obtain ⟨rfl, rfl⟩ := h
      exact ⟨undef, by simp [Act.put, hr.size, hlt], .inr ⟨by rw [yielded_put hj]; exact hy, rfl⟩⟩
    · rw [if_neg e] at h
      obtain ⟨u0, h3, h4⟩ := hr.sl i t' v h
      refine ⟨u0, by simp [Act.put, Array.getElem?_setIfInBounds_ne (Ne.symm e), h3], ?_⟩
      cases t' with
      | none => exact h4
      | some jt =>
        obtain ⟨j', tt⟩ := jt
        have hy' : yielded ops (a.put (some d) undef).tmps j' = yielded ops a.tmps j' := yielded_put (fun e he h' => hclear i j' tt v h (by rw [he]; cases h'; rfl))
        rcases h4 with h4 | h4
        · exact .inl ⟨by rw [hy']; exact h4.1, h4.2⟩
        · exact .inr ⟨by rw [hy']; exact h4.1, h4.2⟩

/-! ### guards -/
theorem yielded_slot {j d : Nat} {b : Bool} (hd : dstOf ops j = some d) (h : yielded ops a.tmps j = some b) : a.tmps[d]? = some (.bool b) := by
  unfold yielded at h
  have : (ops[j]?).bind (·.dst) = some d := hd
  rw [this] at h
  simp only [Option.bind_some] at h
  split at h
  · rename_i b' hb; rw [hb]; simp at h; rw [h]
  · cases h
theorem tag_true (hr : RRel R w0 N ops μ r a w) {d : Nat} {j : Nat} {t : Bool} {v : AV} {b : Bool} (hl : look r.s d = some (some (j, t), v)) (hb : a.tmps[d]? = some (.bool b)) : yielded ops a.tmps j = some t ∧ AVR w μ (Good R μ) v (.bool b) := by
  obtain ⟨u, h1, h2⟩ := hr.sl d _ v hl
  rw [hb] at h1
  obtain rfl := Option.some.inj h1
  rcases h2 with h2 | h2
  · exact h2
  · exact absurd h2.2 (by unfold undef; intro h; cases h)
theorem chain_true (hr : RRel R w0 N ops μ r a w) : ∀ (n : Nat) (p : Nat × Bool), yielded ops a.tmps p.1 = some p.2 → ∀ q, q ∈ chainOf ops r n p → yielded ops a.tmps q.1 = some q.2
  | 0, p, h, q, hq => by simp only [chainOf, List.mem_singleton] at hq; subst hq; exact h
  | n + 1, p, h, q, hq => by
    simp only [chainOf, List.mem_cons] at hq
    rcases hq with rfl | hq
    · exact h
    · split at hq
      · rename_i t v hl
        cases hd : dstOf ops p.1 with
        | none => rw [hd] at hl; cases hl
        | some d =>
          rw [hd] at hl
          have hb := yielded_slot hd h
          obtain ⟨j, tt⟩ := t
          exact chain_true hr n (j, tt) (tag_true hr hl hb).1 q hq
      · cases hq
theorem gexp_true (hr : RRel R w0 N ops μ r a w) : ∀ (n : Nat) (p : Nat × Bool) (e : Bool), gexp ops r n p = some e → yielded ops a.tmps p.1 = some p.2 → e = true
  | 0, p, e, h, _ => by cases h
  | n + 1, p, e, h, hy => by
    simp only [gexp] at h
    split at h
    · rename_i g hl
      cases hd : dstOf ops p.1 with
      | none => rw [hd] at hl; cases hl
      | some d =>
        rw [hd] at hl
        have hb := yielded_slot hd hy
        obtain ⟨u, h1, h2⟩ := hr.sl d _ _ hl
        rw [hb] at h1
        obtain rfl := Option.some.inj h1
        have := val_eq h2
        injection this with this
        subst this
        obtain rfl := Option.some.inj h
        cases p.2 <;> rfl
    · rename_i t g hl
      cases hd : dstOf ops p.1 with
      | none => rw [hd] at hl; cases hl
      | some d =>
        rw [hd] at hl
        have hb := yielded_slot hd hy
        obtain ⟨j, tt⟩ := t
        obtain ⟨h1, h2⟩ := tag_true hr hl hb
        have := val_eq h2
        injection this with this
        subst this
        split at h
        · rename_i e' he
          obtain rfl := Option.some.inj h
          rw [gexp_true hr n (j, tt) e' he h1]
          cases p.2 <;> rfl
        · cases h
    · cases h
theorem notOwn_r {j : Nat} {d : Option Nat} (h : notOwn ops j d = true) : ∀ e, dstOf ops j = some e → d ≠ some e := by
  intro e he hd
  unfold notOwn at h
  rw [he, hd] at h
  simp at h

theorem step_snd (tok : TOK P) (hsig : SigOK P sig) (hr : RRel R w0 N ops μ r a w) {cs : List Bool} {r' : RS} {x : OR} (h : evStep sig N ops r o = some (cs, r', x)) (hcs : cs.all id = true) (hclear : ∀ i j t v d, look r.s i = some (some (j, t), v) → o.dst = some d → dstOf ops j ≠ some d) {K : Act → World → Prop} {Q : Exit → Act → World → Prop}
    (hK : ∀ a' w' μ', RRel R w0 N ops μ' r' a' w' → K a' w') : if Region.wanted o (yielded ops a.tmps) = true then o.wp P a w K Q else K (a.put o.dst undef) w := by
  have free : ∀ {x : OR}, mayPut N r x o.dst = true → ∀ k, x.nb = some k → ∀ d, o.dst = some d → look r.b d = none := by
    intro x hm k hk d hd
    rw [hd] at hm
    simp only [mayPut, Bool.and_eq_true, hk] at hm
    cases hl : look r.b d with
    | none => rfl
    | some _ => rw [hl] at hm; simp at hm
  unfold evStep at h
  split at h
  · rename_i hg
    rw [if_pos (by simp [Region.wanted, hg])]
    have c : Ctx P R w0 N ops μ r a w [] := ⟨tok, hr, fun p hp => by cases hp⟩
    split at h
    · rename_i x' hx
      cases hm : mayPut N r x' o.dst with
      | false => rw [hm] at h; cases h
      | true =>
        rw [hm] at h
        simp only [cond_true, Option.some.injEq, Prod.mk.injEq] at h
        obtain ⟨rfl, rfl, rfl⟩ := h
        have hs : Snd P R w0 r o x' μ a w := by
          unfold evAny at hx
          split at hx
          · rename_i cn p q hop; exact snd_pick c hop hx
          · exact evOp_snd c hsig hx hcs (free hm)
        exact hs K Q (fun u μ' w' hp => hK _ _ μ' (rrel_after hr hm hp none (fun j t h => by cases h) hclear))
    · cases h
  · rename_i g hg
    split at h
    · rename_i x' e hx he
      cases hm : (mayPut N r x' o.dst && !(isEff x') && notOwn ops g.1 o.dst) with
      | false => rw [hm] at h; cases h
      | true =>
        rw [hm] at h
        simp only [cond_true, Option.some.injEq, Prod.mk.injEq] at h
        obtain ⟨rfl, rfl, rfl⟩ := h
        simp only [Bool.and_eq_true, Bool.not_eq_true'] at hm
        obtain ⟨⟨hm1, hm2⟩, hm3⟩ := hm
        have hno := notOwn_r hm3
        obtain ⟨j, t⟩ := g
        by_cases hw : yielded ops a.tmps j = some t
        · rw [if_pos (by simp [Region.wanted, hg, hw])]
          have hch := chain_true hr 8 (j, t) hw
          have c : Ctx P R w0 N ops μ r a w (chainOf ops r 8 (j, t)) := ⟨tok, hr, hch⟩
          have hge := gexp_true hr 8 (j, t) e he hw
          have hcs' : x'.cs.all id = true := by
            rw [List.all_eq_true] at hcs ⊢
            intro b hb
            have := hcs (!e || b) (List.mem_map_of_mem hb)
            simpa [hge] using this
          have hs : Snd P R w0 r o x' μ a w := by
            unfold evAny at hx
            split at hx
            · rename_i cn p q hop; exact snd_pick c hop hx
            · exact evOp_snd c hsig hx hcs' (free hm1)
          exact hs K Q (fun u μ' w' hp => hK _ _ μ' (rrel_after hr hm1 hp (some (j, t)) (fun j' t' h => by cases h; exact ⟨hw, hno⟩) hclear))
        · rw [if_neg (by simp [Region.wanted, hg, hw])]
          exact hK _ _ μ (rrel_skip hr hm1 hm2 hw hno hclear)
    · cases h
/-- The tags that stand in a state are guards that have been asked. -/
def TagEx (ops : Array Oper) (r : RS) (ex : Nat → Prop) : Prop := ∀ i j t v, look r.s i = some (some (j, t), v) → ex j ∧ ∃ (k : Nat) (o : Oper), ops[k]? = some o ∧ ∃ t', o.guard = some (j, t')
theorem guardsOk_r (hg : guardsOk ops = true) {k : Nat} {o : Oper} {j : Nat} {t : Bool} (ho : ops[k]? = some o) (hgd : o.guard = some (j, t)) : j < k ∧ ∀ i d, dstOf ops i = some d → dstOf ops j = some d → i = j := by
  have hk := (Array.getElem?_eq_some_iff.1 ho).1
  have h1 := List.all_eq_true.1 hg k (by simpa using hk)
  unfold guardOk at h1
  rw [ho] at h1
  simp only [Option.bind_some, hgd, Bool.and_eq_true] at h1
  refine ⟨Nat.le_of_ble_eq_true h1.1, fun i d hi hj => ?_⟩
  have hi' : i < ops.size := by
    unfold dstOf at hi
    rcases Nat.lt_or_ge i ops.size with h | h
    · exact h
    · rw [Array.getElem?_eq_none h] at hi; cases hi
  have h2 := List.all_eq_true.1 h1.2 i (by simpa using hi')
  simp only [Bool.or_eq_true] at h2
  rcases h2 with h2 | h2
  · exact Nat.eq_of_beq_eq_true h2
  · rw [hi, hj] at h2; simp at h2
theorem tag_clear (hg : guardsOk ops = true) {ex : Nat → Prop} (ht : TagEx ops r ex) {n : Nat} (hn : ops[n]? = some o) (hex : ¬ ex n) : ∀ i j t v d, look r.s i = some (some (j, t), v) → o.dst = some d → dstOf ops j ≠ some d := by
  intro i j t v d hl hd he
  obtain ⟨h1, k, o', ho', t', hgd⟩ := ht i j t v hl
  have := (guardsOk_r hg ho' hgd).2 n d (by unfold dstOf; rw [hn]; exact hd) he
  exact hex (this ▸ h1)
theorem evStep_shape {cs : List Bool} {r' : RS} {x : OR} (h : evStep sig N ops r o = some (cs, r', x)) : r' = after r o.guard o.dst x := by
  unfold evStep at h
  split at h
  · rename_i hg
    split at h
    · rename_i x' hx
      cases hm : mayPut N r x' o.dst with
      | false => rw [hm] at h; cases h
      | true =>
        rw [hm] at h
        simp only [cond_true, Option.some.injEq, Prod.mk.injEq] at h
        obtain ⟨_, rfl, rfl⟩ := h
        rw [hg]
    · cases h
  · rename_i g hg
    split at h
    · rename_i x' e hx he
      cases hm : (mayPut N r x' o.dst && !(isEff x') && notOwn ops g.1 o.dst) with
      | false => rw [hm] at h; cases h
      | true =>
        rw [hm] at h
        simp only [cond_true, Option.some.injEq, Prod.mk.injEq] at h
        obtain ⟨_, rfl, rfl⟩ := h
        rw [hg]
    · cases h
theorem tagEx_after {ex : Nat → Prop} (ht : TagEx ops r ex) {n : Nat} (hn : ops[n]? = some o) (x : OR) (hgx : ∀ j t, o.guard = some (j, t) → ex j) : TagEx ops (after r o.guard o.dst x) (fun q => q = n ∨ ex q) := by
  intro i j t v hl
  have hold : ∀ i t v, look (killL x.kl r).s i = some (t, v) → ∃ v0, look r.s i = some (t, v0) := by
    intro i t v h
    rw [look_killL_s] at h
    cases hl : look r.s i with
    | none => rw [hl] at h; cases h
    | some p =>
      rw [hl] at h
      simp only [Option.map_some, Option.some.injEq, Prod.mk.injEq] at h
      exact ⟨p.2, by rw [← h.1]⟩
  cases hd : o.dst with
  | none =>
    rw [hd] at hl
    simp only [after] at hl
    obtain ⟨v0, h0⟩ := hold i _ v hl
    obtain ⟨h1, h2⟩ := ht i j t v0 h0
    exact ⟨.inr h1, h2⟩
  | some d =>
    rw [hd] at hl
    simp only [after, look_put] at hl
    by_cases e : i = d
    · rw [if_pos e] at hl
      simp only [Option.some.injEq, Prod.mk.injEq] at hl
      exact ⟨.inr (hgx j t hl.1), n, o, hn, t, hl.1⟩
    · rw [if_neg e] at hl
      obtain ⟨v0, h0⟩ := hold i _ v hl
      obtain ⟨h1, h2⟩ := ht i j t v0 h0
      exact ⟨.inr h1, h2⟩
/-- A region in the order of its text, from an operation on. -/
theorem idx_snd (tok : TOK P) (hsig : SigOK P sig) (hg : guardsOk ops = true) {Q : Exit → Act → World → Prop} : ∀ (l : List Nat) (n : Nat) (μ : Nat → Gh) (r : RS) (a : Act) (w : World) (cs : List Bool) (r' : RS), (∃ m, l = (List.range m).drop n) → TagEx ops r (· < n) → RRel R w0 N ops μ r a w → evIdx sig N ops l r = some (cs, r') → cs.all id = true →
    (∀ a' w' μ', RRel R w0 N ops μ' r' a' w' → Q .normal a' w') → wpOps P ops Q l a w
  | [], n, μ, r, a, w, cs, r', hl, ht, hr, h, hcs, hQ => by
    simp only [evIdx, Option.some.injEq, Prod.mk.injEq] at h
    obtain ⟨_, rfl⟩ := h
    exact hQ a w μ hr
  | i :: l, n, μ, r, a, w, cs, r', hl, ht, hr, h, hcs, hQ => by
    obtain ⟨m, hm⟩ := hl
    have hin : i = n := by
      have := congrArg (·[0]?) hm
      simp only [List.getElem?_cons_zero, List.getElem?_drop, Nat.add_zero] at this
      rcases Nat.lt_or_ge n m with h | h
      · rw [List.getElem?_range h] at this; exact Option.some.inj this
      · rw [List.getElem?_eq_none (by simpa using h)] at this; cases this
    subst hin
    have hl' : l = (List.range m).drop (i + 1) := by
      have := congrArg List.tail hm
      simpa [List.tail_drop] using this
    simp only [evIdx] at h
    rw [wpOps_cons]
    unfold wpOp
    split at h
    · cases h
    · rename_i o ho
      rw [ho]
      split at h
      · rename_i c1 r1 x h1
        split at h
        · rename_i ds r2 h2
          simp only [Option.some.injEq, Prod.mk.injEq] at h
          obtain ⟨rfl, rfl⟩ := h
          rw [List.all_append, Bool.and_eq_true] at hcs
          have ht1 : TagEx ops r1 (· < i + 1) := by
            rw [evStep_shape h1]
            have := tagEx_after ht ho x (fun j t hgd => (guardsOk_r hg ho hgd).1)
            exact fun q j t v hl => by
              obtain ⟨h3, h4⟩ := this q j t v hl
              exact ⟨by rcases h3 with h3 | h3 <;> omega, h4⟩
          have hst := step_snd (K := wpOps P ops Q l) (Q := Q) tok hsig hr h1 hcs.1 (tag_clear hg ht ho (by omega)) (fun a' w' μ' hr' => idx_snd tok hsig hg l (i + 1) μ' r1 a' w' ds r2 ⟨m, hl'⟩ ht1 hr' h2 hcs.2 hQ)
          dsimp only
          split
          · rename_i hw; rw [if_pos hw] at hst; exact .inl hst
          · rename_i hw; rw [if_neg hw] at hst; exact hst
        · cases h
      · cases h
end
end Go.Proofs.Ytoknhjmcoleejaa
