/- Code: regions, and the rules of the word EV. No condition. -/
import Derived.Test.YtoknhjmcoleejaaER
import Derived.Deep.LoopGhost
set_option linter.unusedVariables false
set_option linter.unusedSimpArgs false
namespace Go.Proofs.Ytoknhjmcoleejaa
open Go.RowKit
section
variable {P : Program} {N : Nat} {ops : Array Oper} {sig : List (Nat × Summary)} {st st' : St} {Q Q' : Exit → St → Prop}
theorem SRel.ext {R : RT} {w0 w w' : World} {μ : Nat → Gh} {a : Act} (h : SRel R w0 N μ st a w) (hb : Below w.heap.size w w') : SRel R w0 N μ st a w' :=
  ⟨h.size, h.dfr, fun i x hl => let ⟨u, h1, h2⟩ := h.sl i x hl; ⟨u, h1, h2.ext hb⟩, h.mem.ext hb⟩
theorem lst_replicate (n i : Nat) : lst (Array.replicate n false) i = false := by
  unfold lst
  by_cases h : i < n <;> simp [Array.getD, h]
theorem msk_none : ∀ (its : List Item) (r : RS), msk its (fun _ => false) r = r
  | [], r => rfl
  | a :: l, r => by simp only [msk]; exact msk_none l r
theorem tagEx_none {r : RS} (h : noTags r) (ex : Nat → Prop) : TagEx ops r ex := by
  intro i j t v hl
  have := h i (some (j, t)) v hl
  cases this
theorem EV.region (tok : TOK P) (hsig : SigOK P sig) {rid : Nat} {draw : Bool} {live : List Nat} {cs : List Bool} (h : evRegion sig N ops draw live st = some (cs, st')) (hcs : cs.all id = true) (hQ : Q .normal st') : EV P N (.region rid ops draw) st Q := by
  intro R w0 μ a w hr
  unfold evRegion at h
  simp only at h
  cases hg : guardsOk ops with
  | false => rw [hg] at h; cases h
  | true =>
    rw [hg, cond_true] at h
    cases draw with
    | false =>
      rw [cond_false] at h
      split at h
      · rename_i cs1 r1 h1
        split at h
        · rename_i st1 h2
          obtain ⟨rfl, rfl⟩ := Prod.mk.inj (Option.some.inj h)
          obtain ⟨μ1, hr1⟩ := rrel_killAll (ops := ops) (sites ops) μ (toRS st) (srel_toRS hr)
          refine wp_region (idx_snd tok hsig hg (List.range ops.size) 0 μ1 _ a w cs1 r1 ⟨ops.size, rfl⟩ (tagEx_none (noTags_killAll _ _ (noTags_toRS st)) _) hr1 h1 hcs ?_)
          intro a' w' μ' hr'
          obtain ⟨μ2, hs⟩ := fin_r hr' h2
          exact ⟨_, μ2, hQ, hs⟩
        · cases h
      · cases h
    | true =>
      rw [cond_true] at h
      split at h
      · rename_i cs1 r1 h1
        split at h
        · rename_i st1 h2
          obtain ⟨rfl, rfl⟩ := Prod.mk.inj (Option.some.inj h)
          have hr' : SRel R w0 N μ st a { w with drawn := w.drawn + 1 } := hr.ext ⟨rfl, rfl, rfl, Nat.le_refl _, fun _ _ => rfl⟩
          obtain ⟨μ1, hr1⟩ := rrel_killAll (ops := ops) (sites ops) μ (toRS st) (srel_toRS hr')
          refine wp_region_any tok.mixed ?_
          unfold evDraw at h1
          simp only at h1
          cases hd : (List.range ops.size).all (depsBelow ops) with
          | false => rw [hd] at h1; cases h1
          | true =>
            rw [hd, cond_true] at h1
            split at h1
            · rename_i cs2 r2 its h3
              cases hp : pairOk (ancs ops.toList) its with
              | false => rw [hp] at h1; cases h1
              | true =>
                rw [hp, cond_true] at h1
                split at h1
                · rename_i ds r3 h4
                  obtain ⟨rfl, rfl⟩ := Prod.mk.inj (Option.some.inj h1)
                  rw [List.all_append, Bool.and_eq_true] at hcs
                  obtain ⟨hm, hall⟩ := splitAt_r (ancs ops.toList) ops.size
                  have hl0 : lst (Array.replicate ops.size false) = fun _ => false := funext fun i => lst_replicate _ i
                  have ht0 := noTags_killAll (sites ops) _ (noTags_toRS st)
                  refine first_snd (R := R) (w0 := w0) tok hsig hg hd hm hall h3 hp hcs.1 (tagEx_none ht0 _) ?_ ops.size _ μ1 a _ (by simp) ?_ ?_ ?_ ?_ ?_
                  · intro listed μ3 a3 w3 q1 q2 q3 q4
                    refine chain_snd tok hsig hg hd _ (splitAt (ancs ops.toList) ops.size) listed μ3 r2 a3 w3 ds r3 (by omega) q1 q2 hall q4 q3 h4 hcs.2 ?_
                    intro a' w' μ' hr'
                    obtain ⟨μ2, hs⟩ := fin_r hr' h2
                    exact ⟨_, μ2, hQ, hs⟩
                  · unfold left
                    simp only [hl0, Bool.not_false]
                    rw [List.filter_eq_self.2 (fun _ _ => rfl), List.length_range]
                  · intro k o _ hk; rw [lst_replicate] at hk; cases hk
                  · intro i _ hk; rw [lst_replicate] at hk; cases hk
                  · rw [hl0, msk_none]; exact tagEx_none ht0 _
                  · rw [hl0, msk_none]; exact hr1
                · cases h1
            · cases h1
        · cases h
      · cases h

/-! ### the rules -/
theorem EV.mono {c : Code} (h : EV P N c st Q) (hq : ∀ e s, Q e s → Q' e s) : EV P N c st Q' :=
  fun R w0 μ a w hr => wp_mono (h R w0 μ a w hr) fun e a' w' ⟨s, m, h1, h2⟩ => ⟨s, m, hq e s h1, h2⟩
theorem EV.skip (h : Q .normal st) : EV P N .skip st Q := fun R w0 μ a w hr => wp_skip ⟨st, μ, h, hr⟩
theorem EV.exit {id : Nat} (h : Q (.exit id) st) : EV P N (.exit id) st Q := fun R w0 μ a w hr => wp_exit ⟨st, μ, h, hr⟩
theorem EV.ret (h : Q .ret st) : EV P N .ret st Q := fun R w0 μ a w hr => wp_ret ⟨st, μ, h, hr⟩
theorem EV.label {l : Nat} (h : Q .normal st) : EV P N (.label l) st Q := fun R w0 μ a w hr => wp_label ⟨st, μ, h, hr⟩
theorem EV.seq {x y : Code} (h : EV P N x st (thenQ (fun s => EV P N y s Q) Q)) : EV P N (.seq x y) st Q := by
  intro R w0 μ a w hr
  refine wp_seq (wp_mono (h R w0 μ a w hr) ?_)
  rintro e a' w' ⟨s, m, h1, h2⟩
  cases e with
  | normal => exact h1 R w0 m a' w' h2
  | _ => exact ⟨s, m, h1, h2⟩
theorem EV.block {id : Nat} {c : Code} (h : EV P N c st (blockQ id Q)) : EV P N (.block id c) st Q := by
  intro R w0 μ a w hr
  refine wp_block (wp_mono (h R w0 μ a w hr) ?_)
  rintro e a' w' ⟨s, m, h1, h2⟩
  cases e with
  | exit id' =>
    simp only [blockQ] at h1
    simp only [Exit.inBlock]
    cases hb : Nat.beq id' id with
    | true =>
      rw [hb] at h1
      rw [if_pos (Nat.eq_of_beq_eq_true hb)]
      exact ⟨s, m, h1, h2⟩
    | false =>
      rw [hb] at h1
      rw [if_neg (beq_ne hb)]
      exact ⟨s, m, h1, h2⟩
  | _ => exact ⟨s, m, h1, h2⟩
theorem condOf_r {R : RT} {w0 w : World} {μ : Nat → Gh} {a : Act} {c : Operand} {b : Bool} (hr : SRel R w0 N μ st a w) (h : condOf st c = some b) : a.eval c = .bool b := by
  unfold condOf at h
  split at h
  · rename_i t
    split at h
    · rename_i b' hl
      obtain rfl := Option.some.inj h
      obtain ⟨u, h1, h2⟩ := hr.sl _ _ hl
      have hu : u = .bool b' := by
        cases h2 with
        | val _ => rfl
      subst hu
      simp [Act.eval, h1]
    · cases h
  · obtain rfl := Option.some.inj h; rfl
  · cases h
theorem EV.cond {c : Operand} {x y : Code} {b : Bool} (hc : condOf st c = some b) (h1 : b = true → EV P N x st Q) (h2 : b = false → EV P N y st Q) : EV P N (.cond c x y) st Q := by
  intro R w0 μ a w hr
  refine wp_cond (condOf_r hr hc) ?_
  cases b with
  | true => exact h1 rfl R w0 μ a w hr
  | false => exact h2 rfl R w0 μ a w hr
/-- A loop: a family of states, of which each round lowers the number. -/
theorem EV.loop {c : Code} (I : Nat → St → Prop) {n0 : Nat} (h0 : I n0 st) (round : ∀ n s, I n s → EV P N c s (thenQ (fun s' => ∃ n', n' < n ∧ I n' s') Q)) : EV P N (.loop c) st Q := by
  intro R w0 μ a w hr
  refine wp_loop_ghost (fun n a' w' => ∃ s m, I n s ∧ SRel R w0 N m s a' w') n0 ⟨st, μ, h0, hr⟩ ?_
  rintro n a1 w1 ⟨s, m, hi, hs⟩
  refine wp_mono (round n s hi R w0 m a1 w1 hs) ?_
  rintro e a' w' ⟨s', m', h1, h2⟩
  cases e with
  | normal =>
    obtain ⟨n', hlt, hi'⟩ := h1
    exact ⟨n', hlt, s', m', hi', h2⟩
  | _ => exact ⟨s', m', h1, h2⟩
end
end Go.Proofs.Ytoknhjmcoleejaa
