/- The operations, one after another: what the evaluator says is what the model does. No condition. -/
import Derived.Test.YtoknhjmcoleejaaEF
set_option linter.unusedVariables false
set_option linter.unusedSimpArgs false
namespace Go.Proofs.Ytoknhjmcoleejaa
open Go.RowKit

structure Ctx (P : Program) (R : RT) (w0 : World) (N : Nat) (ops : Array Oper) (μ : Nat → Gh) (r : RS) (a : Act) (w : World) (ch : List (Nat × Bool)) : Prop where
  tok : TOK P
  rel : RRel R w0 N ops μ r a w
  ch : ∀ p, p ∈ ch → yielded ops a.tmps p.1 = some p.2

structure OpPost (R : RT) (w0 : World) (r : RS) (d : Option Nat) (x : OR) (μ : Nat → Gh) (w : World) (u : Value) (μ' : Nat → Gh) (w' : World) : Prop where
  val : ∀ n, d = some n → AVR w' μ' (Good R μ') x.v u
  mem : Mem R w0 μ' (after r none d x).b w'
  keep : ∀ y z, AVR w μ (Good R μ) y z → AVR w' μ' (Good R μ') (killLV x.kl y) z
def Snd (P : Program) (R : RT) (w0 : World) (r : RS) (o : Oper) (x : OR) (μ : Nat → Gh) (a : Act) (w : World) : Prop :=
  ∀ K Q, (∀ u μ' w', OpPost R w0 r o.dst x μ w u μ' w' → K (a.put o.dst u) w') → o.wp P a w K Q

section
variable {R : RT} {P : Program} {w0 w w' : World} {N : Nat} {ops : Array Oper} {μ μ' : Nat → Gh} {r : RS} {a : Act} {ch : List (Nat × Bool)} {o : Oper}
theorem wp_value {u : Value} {K : Act → World → Prop} {Q : Exit → Act → World → Prop} (hrun : (execOp a.eval o).run P w = .ok (.value u) w') (h : K (a.put o.dst u) w') : o.wp P a w K Q := by
  unfold Oper.wp; rw [hrun]; exact h
theorem wp_skipped {K : Act → World → Prop} {Q : Exit → Act → World → Prop} (hrun : (execOp a.eval o).run P w = .ok .skip w') (h : K (a.put o.dst undef) w') : o.wp P a w K Q := by
  unfold Oper.wp; rw [hrun]; exact h
theorem wp_entered {f : FuncId} {args : Array Value} {K : Act → World → Prop} {Q : Exit → Act → World → Prop} (hrun : (execOp a.eval o).run P w = .ok (.enter f args) w')
    (h : Calls P f args w' fun e w'' => ∃ u, e = .returned u ∧ K (a.put o.dst u) w'') : o.wp P a w K Q := by
  unfold Oper.wp; rw [hrun, Oper.upon_enter]
  exact h.mono fun e w'' ⟨u, he, hk⟩ => by subst he; exact hk
theorem Snd.pure (hm : Mem R w0 μ r.b w) {x : OR} {u : Value} (hrun : (execOp a.eval o).run P w = .ok (.value u) w) (hx : x.nb = none ∧ x.wb = [] ∧ x.kl = []) (hv : AVR w μ (Good R μ) x.v u) : Snd P R w0 r o x μ a w := by
  intro K Q hK
  refine wp_value hrun (hK u μ w ⟨fun _ _ => hv, ?_, fun y z h => ?_⟩)
  · unfold after
    rw [hx.1, hx.2.1, hx.2.2]
    cases o.dst <;> exact hm
  · rw [hx.2.2]; exact h

/-- An operand. -/
theorem rho_r (c : Ctx P R w0 N ops μ r a w ch) {x : Operand} {v : AV} (h : rho r ch x = some v) : AVR w μ (Good R μ) v (a.eval x) := by
  unfold rho at h
  cases x with
  | tmp t =>
    simp only [opd] at h
    cases hl : look r.s t with
    | none => rw [hl] at h; cases h
    | some p =>
      obtain ⟨tag, y⟩ := p
      rw [hl] at h
      simp only at h
      cases ht : tagIn ch tag with
      | false => rw [ht] at h; cases h
      | true =>
        rw [ht] at h
        simp only [cond_true, Option.some.injEq] at h
        subst h
        obtain ⟨u, hu, htr⟩ := c.rel.sl t tag y hl
        have he : a.eval (.tmp t) = u := by simp [Act.eval, hu]
        rw [he]
        cases tag with
        | none => exact htr
        | some jw =>
          obtain ⟨j, wt⟩ := jw
          simp only [tagIn, List.any_eq_true] at ht
          obtain ⟨p, hp, hb⟩ := ht
          simp only [Bool.and_eq_true] at hb
          have h1 := Nat.eq_of_beq_eq_true hb.1
          have h2 : p.2 = wt := by cases wt <;> simpa using hb.2
          have hy := c.ch p hp
          rw [h1, h2] at hy
          rcases htr with h | h
          · exact h.2
          · exact absurd hy h.1
  | const v' =>
    simp only [opd] at h
    cases ho : v'.oneCell' with
    | false => rw [ho] at h; cases h
    | true =>
      rw [ho] at h
      simp only [cond_true, tagIn, Option.some.injEq] at h
      subst h
      exact CR.val v' ho
  | global g => cases h
  | func f =>
    simp only [opd, tagIn, cond_true, Option.some.injEq] at h
    subst h
    exact ⟨#[], rfl, trivial⟩
theorem val_eq {v u : Value} (h : AVR w μ (Good R μ) (.v (.c (.val v))) u) : u = v := by cases h; rfl
theorem bo_eq {b : Bool} {u : Value} (h : AVR w μ (Good R μ) (.v (.c (bo b))) u) : u = .bool b := val_eq h

/-! ### moves, numbers, tests -/
theorem snd_move (c : Ctx P R w0 N ops μ r a w ch) {x : Operand} (ho : o.op = .move x ∨ o.op = .assign x) {v : AV} (h : rho r ch x = some v) : Snd P R w0 r o (rPure v) μ a w := by
  refine Snd.pure c.rel.mem (u := a.eval x) ?_ ⟨rfl, rfl, rfl⟩ (rho_r c h)
  rcases ho with ho | ho <;> simp [execOp, ho]
theorem snd_extract (c : Ctx P R w0 N ops μ r a w ch) {x : Operand} {i : Nat} (ho : o.op = .extract x i) {l : List V1} {v : V1} (h : rho r ch x = some (.tup l)) (hi : l[i]? = some v) : Snd P R w0 r o (rPure (.v v)) μ a w := by
  obtain ⟨us, hu, hr⟩ := rho_r c h
  obtain ⟨u, h1, h2⟩ := hr.get hi
  refine Snd.pure c.rel.mem (u := u) ?_ ⟨rfl, rfl, rfl⟩ h2
  have : us[i]? = some u := by simpa using h1
  simp [execOp, ho, hu, Instr.extract, this]
theorem snd_not (c : Ctx P R w0 N ops μ r a w ch) {x : Operand} {t : TypeId} (ho : o.op = .unOp .not t x) {b : Bool} (h : rho r ch x = some (.v (.c (.val (.bool b))))) : Snd P R w0 r o (rC (bo (!b))) μ a w := by
  have hu := val_eq (rho_r c h)
  refine Snd.pure c.rel.mem (u := .bool (!b)) ?_ ⟨rfl, rfl, rfl⟩ (CR.val _ rfl)
  simp [execOp, ho, hu, Op.unary]
theorem snd_neg (c : Ctx P R w0 N ops μ r a w ch) {x : Operand} {t : TypeId} (ho : o.op = .unOp .neg t x) {k : IntKind} {n : Int} (h : rho r ch x = some (.v (.c (.val (.int k n))))) : Snd P R w0 r o (rC (.val (.int k (k.wrap (0 - n))))) μ a w := by
  have hu := val_eq (rho_r c h)
  refine Snd.pure c.rel.mem (u := .int k (k.wrap (0 - n))) ?_ ⟨rfl, rfl, rfl⟩ (CR.val _ rfl)
  simp [execOp, ho, hu, Op.unary, Op.intArith]
theorem snd_convert (c : Ctx P R w0 N ops μ r a w ch) {x : Operand} {s t : TypeId} (ho : o.op = .convert s t x) {k k1 k2 : IntKind} {n : Int} {m1 m2 : Nat} {z1 z2 : List C} (h : rho r ch x = some (.v (.c (.val (.int k n)))))
    (hs : look TT s = some ⟨.int k1, m1, z1⟩) (ht : look TT t = some ⟨.int k2, m2, z2⟩) : Snd P R w0 r o (rC (.val (.int k2 (k2.wrap n)))) μ a w := by
  have hu := val_eq (rho_r c h)
  have u1 : P.underlying s = some (.int k1) := (c.tok.ty s _ hs).und
  have u2 : P.underlying t = some (.int k2) := (c.tok.ty t _ ht).und
  refine Snd.pure c.rel.mem (u := .int k2 (k2.wrap n)) ?_ ⟨rfl, rfl, rfl⟩ (CR.val _ rfl)
  simp [execOp, ho, hu, convert, underlying, u1, u2, Conv.intToInt]
theorem aggEq_r (l : List C) : ∀ {m : List C} {e : Bool}, aggEq l m = some e → ∃ as bs : List Int, l = as.map i64 ∧ m = bs.map i64 ∧ e = decide (as = bs) := by
  induction l with
  | nil =>
    intro m e h
    cases m with
    | nil => exact ⟨[], [], rfl, rfl, by simp only [aggEq, Option.some.injEq] at h; simp [← h]⟩
    | cons d m => cases h
  | cons c l ih =>
    intro m e h
    unfold aggEq at h
    split at h
    · rename_i h2; cases h2
    · rename_i a l' b m' h1
      split at h
      · rename_i e' he
        simp only [List.cons.injEq] at h1
        obtain ⟨rfl, rfl⟩ := h1
        obtain ⟨as, bs, rfl, rfl, hd⟩ := ih he
        refine ⟨a :: as, b :: bs, rfl, rfl, ?_⟩
        have := Option.some.inj h
        rw [← this, hd]
        by_cases h1 : a = b <;> simp [h1]
      · cases h
    · cases h
theorem csr_ints : ∀ {as : List Int} {vs : List Value}, CsR w μ (Good R μ) (as.map i64) vs → vs = as.map (Value.int .i64)
  | [], [], _ => rfl
  | a :: as, v :: vs, h => by
    have h1 : v = .int .i64 a := by cases h.1; rfl
    rw [h1, csr_ints h.2]; rfl
  | [], _ :: _, h => h.elim
  | _ :: _, [], h => h.elim
theorem equal_bool {t : TypeId} {p q : Bool} (ht : P.underlying t = some .bool) : (Op.equal t (.bool p) (.bool q)).run P w = .ok (p == q) w := by
  show (Op.equalIn (9999 + 1) t (.bool p) (.bool q)).run P w = _
  rw [Op.equalIn]
  simp [underlying, ht]
theorem snd_bin (c : Ctx P R w0 N ops μ r a w ch) {x y : Operand} {op : BinOp} {t t' : TypeId} (ho : o.op = .binOp op t x y t') {u v : AV} (h : rho r ch x = some u) (h' : rho r ch y = some v) {z : OR}
    (hz : evBin op t u v = some z) (hcs : z.cs.all id = true) : Snd P R w0 r o z μ a w := by
  have hx := rho_r c h
  have hy := rho_r c h'
  unfold evBin at hz
  split at hz
  · -- numbers
    rename_i k p k' q
    have e1 := val_eq hx
    have e2 := val_eq hy
    split at hz
    · simp only [Option.some.injEq] at hz
      subst hz
      simp at hcs
      refine Snd.pure c.rel.mem (u := .int k (k.wrap (p * 2 ^ (min q.toNat k.bits)))) ?_ ⟨rfl, rfl, rfl⟩ (CR.val _ rfl)
      have : ¬ q < 0 := by omega
      simp [execOp, ho, e1, e2, eqGuard, binOp, Op.shift, this]
    · simp only [Option.some.injEq] at hz
      subst hz
      simp at hcs
      refine Snd.pure c.rel.mem (u := .int k (p.fdiv (2 ^ (min q.toNat k.bits)))) ?_ ⟨rfl, rfl, rfl⟩ (CR.val _ rfl)
      have : ¬ q < 0 := by omega
      simp [execOp, ho, e1, e2, eqGuard, binOp, Op.shift, this]
    · rename_i hne1 hne2
      cases hk : decide (k = k') with
      | false => rw [hk] at hz; cases hz
      | true =>
        rw [hk] at hz
        have hkk := of_decide_eq_true hk
        subst hkk
        simp only [cond_true] at hz
        cases op <;> simp only [ibits, rC, rPure, Option.some.injEq] at hz <;> first
          | exact (hne1 rfl).elim
          | exact (hne2 rfl).elim
          | (subst hz
             refine Snd.pure c.rel.mem ?_ ⟨rfl, rfl, rfl⟩ (CR.val _ rfl)
             simp [execOp, ho, e1, e2, eqGuard, binOp, Op.intArith, Op.intCmp, Op.intBits]
             done)
          | (subst hz
             have hq : q ≠ 0 := by simpa using hcs
             refine Snd.pure c.rel.mem ?_ ⟨rfl, rfl, rfl⟩ (CR.val _ rfl)
             simp [execOp, ho, e1, e2, eqGuard, binOp, Op.intDiv, hq]
             done)
          | (cases hz; done)
  · -- bools
    rename_i p q
    have e1 := val_eq hx
    have e2 := val_eq hy
    have htt : ∀ b, Nat.beq t 4 = b → b = true → P.underlying t = some .bool := by
      intro b hb hb'
      subst hb'
      have := Nat.eq_of_beq_eq_true hb
      subst this
      exact (c.tok.ty 4 ⟨.bool, 1, [bo false]⟩ rfl).und
    split at hz
    · rename_i hb
      simp only [rC, rPure, Option.some.injEq] at hz
      subst hz
      have ht := htt _ hb rfl
      refine Snd.pure c.rel.mem (u := .bool (p == q)) ?_ ⟨rfl, rfl, rfl⟩ (CR.val _ rfl)
      simp [execOp, ho, e1, e2, eqGuard, binOp, equal_bool (P := P) (w := w) (p := p) (q := q) ht]
    · rename_i hb
      simp only [rC, rPure, Option.some.injEq] at hz
      subst hz
      have ht := htt _ hb rfl
      refine Snd.pure c.rel.mem (u := .bool (!(p == q))) ?_ ⟨rfl, rfl, rfl⟩ (CR.val _ rfl)
      simp [execOp, ho, e1, e2, eqGuard, binOp, equal_bool (P := P) (w := w) (p := p) (q := q) ht]
    · cases hz
  · -- structs
    rename_i l m
    obtain ⟨vs, hv, hl⟩ := hx
    obtain ⟨vs', hv', hl'⟩ := hy
    cases hb : (nmem t eqTs && fits t (.agg l) && fits t (.agg m)) with
    | false => rw [hb] at hz; cases hz
    | true =>
      rw [hb] at hz
      simp only [cond_true] at hz
      simp only [Bool.and_eq_true] at hb
      obtain ⟨⟨hm, hf1⟩, hf2⟩ := hb
      have hgu := c.tok.eqg t hm
      have key : ∀ e, aggEq l m = some e → (Op.equal t (.agg vs) (.agg vs')).run P w = .ok e w := by
        intro e he
        obtain ⟨as, bs, rfl, rfl, rfl⟩ := aggEq_r _ he
        have e1 := csr_ints hl
        have e2 := csr_ints hl'
        unfold fits at hf1 hf2
        cases hT : look TT t with
        | none => rw [hT] at hf1; simp at hf1
        | some ty =>
          rw [hT] at hf1 hf2
          obtain ⟨sh, n, z0⟩ := ty
          cases sh with
          | agg fs =>
            have q1 : as.length = n := by simpa using Nat.eq_of_beq_eq_true hf1
            have q2 : bs.length = n := by simpa using Nat.eq_of_beq_eq_true hf2
            have := c.tok.eqs t n fs z0 hm hT as bs w q1 q2
            rw [← e1, ← e2] at this
            simpa using this
          | _ => simp at hf1
      split at hz
      · rename_i e he
        simp only [rC, rPure, Option.some.injEq] at hz
        subst hz
        refine Snd.pure c.rel.mem (u := .bool e) ?_ ⟨rfl, rfl, rfl⟩ (CR.val _ rfl)
        simp [execOp, ho, hv, hv', eqGuard, binOp, hgu, key e he]
      · rename_i e he
        simp only [rC, rPure, Option.some.injEq] at hz
        subst hz
        refine Snd.pure c.rel.mem (u := .bool (!e)) ?_ ⟨rfl, rfl, rfl⟩ (CR.val _ rfl)
        simp [execOp, ho, hv, hv', eqGuard, binOp, hgu, key e he]
      · cases hz
  · cases hz
end
end Go.Proofs.Ytoknhjmcoleejaa
