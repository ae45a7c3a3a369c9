/- Code: the evaluator for whole pieces, loops by their own contracts. No condition. -/
import Derived.Test.YtoknhjmcoleejaaEU
set_option linter.unusedVariables false
set_option linter.unusedSimpArgs false
namespace Go.Proofs.Ytoknhjmcoleejaa
open Go.RowKit

/-- Where a loop ends: in one state, or in one of two by a test. -/
inductive LR where
  | one (e : Exit) (st : St)
  | two (b : Bool) (e1 : Exit) (s1 : St) (e2 : Exit) (s2 : St)
def LR.q : LR → (Exit → St → Prop) → Prop
  | .one e st, Q => Q e st
  | .two b e1 s1 e2 s2, Q => (b = true → Q e1 s1) ∧ (b = false → Q e2 s2)
abbrev LS := St → Option (List Bool × LR)
/-- A loop's contract. -/
def LoopOK (P : Program) (N : Nat) (c : Code) (lc : LS) : Prop := ∀ st cs res, lc st = some (cs, res) → cs.all id = true → ∀ Q, res.q Q → EV P N (.loop c) st Q
/-- The number of the first region: a loop's name. -/
def headId : Code → Nat
  | .region id _ _ => id
  | .seq a _ => headId a
  | .cond _ a _ => headId a
  | .block _ a => headId a
  | .loop a => headId a
  | .scope a => headId a
  | _ => 0
def loopsOf : Code → List Code
  | .seq a b => loopsOf a ++ loopsOf b
  | .cond _ a b => loopsOf a ++ loopsOf b
  | .block _ a => loopsOf a
  | .loop a => [a]
  | _ => []
def evC (sig : List (Nat × Summary)) (lcs : List (Nat × LS)) (N : Nat) (lv : List (Nat × List Nat)) : Code → St → (Exit → St → Prop) → Prop
  | .skip, st, Q => Q .normal st
  | .region id ops draw, st, Q => match look lv id with
    | some live => match evRegion sig N ops draw live st with
      | some (cs, st') => AllT cs (Q .normal st')
      | none => False
    | none => False
  | .seq a b, st, Q => evC sig lcs N lv a st (thenQ (fun s => evC sig lcs N lv b s Q) Q)
  | .cond c x y, st, Q => match condOf st c with
    | some b => (b = true → evC sig lcs N lv x st Q) ∧ (b = false → evC sig lcs N lv y st Q)
    | none => False
  | .block id c, st, Q => evC sig lcs N lv c st (blockQ id Q)
  | .loop c, st, Q => match look lcs (headId c) with
    | some lc => match lc st with
      | some (cs, res) => AllT cs (res.q Q)
      | none => False
    | none => False
  | .exit id, st, Q => match look lv (id + 1000000) with
    | some live => match fin N live (toRS st) with
      | some st' => Q (.exit id) st'
      | none => False
    | none => Q (.exit id) st
  | .ret, st, Q => Q .ret st
  | .label _, st, Q => Q .normal st
  | _, _, _ => False

/-- A piece of code by its path. -/
def sub : Code → List Nat → Code
  | c, [] => c
  | .seq a b, n :: l => bif Nat.beq n 0 then sub a l else sub b l
  | .cond _ a b, n :: l => bif Nat.beq n 0 then sub a l else sub b l
  | .block _ a, _ :: l => sub a l
  | .loop a, _ :: l => sub a l
  | c, _ => c
def bodyOf (fn : Func) : Code := match fn.body with
  | some c => c
  | none => .skip

theorem allT_r : ∀ {cs : List Bool} {p : Prop}, AllT cs p → cs.all id = true ∧ p
  | [], p, h => ⟨rfl, h⟩
  | b :: l, p, h => by
    obtain ⟨h1, h2⟩ := allT_r h.2
    exact ⟨by simp only [List.all_cons, Bool.and_eq_true]; exact ⟨h.1, h1⟩, h2⟩
theorem evC_snd {P : Program} {sig : List (Nat × Summary)} {lcs : List (Nat × LS)} {N : Nat} {lv : List (Nat × List Nat)} (tok : TOK P) (hsig : SigOK P sig) : ∀ (c : Code) (st : St) (Q : Exit → St → Prop),
    (∀ c', c' ∈ loopsOf c → ∀ lc, look lcs (headId c') = some lc → LoopOK P N c' lc) → evC sig lcs N lv c st Q → EV P N c st Q
  | .skip, st, Q, hl, h => .skip h
  | .region id ops draw, st, Q, hl, h => by
    simp only [evC] at h
    split at h
    · split at h
      · rename_i h1
        obtain ⟨h2, h3⟩ := allT_r h
        exact .region tok hsig h1 h2 h3
      · exact h.elim
    · exact h.elim
  | .seq a b, st, Q, hl, h => by
    refine .seq ((evC_snd tok hsig a st _ (fun c' hc => hl c' (by simp [loopsOf, hc])) h).mono fun e s hq => ?_)
    cases e with
    | normal => exact evC_snd tok hsig b s Q (fun c' hc => hl c' (by simp [loopsOf, hc])) hq
    | _ => exact hq
  | .cond c x y, st, Q, hl, h => by
    simp only [evC] at h
    split at h
    · rename_i b hb
      exact .cond hb (fun e => evC_snd tok hsig x st Q (fun c' hc => hl c' (by simp [loopsOf, hc])) (h.1 e)) (fun e => evC_snd tok hsig y st Q (fun c' hc => hl c' (by simp [loopsOf, hc])) (h.2 e))
    · exact h.elim
  | .block id c, st, Q, hl, h => .block (evC_snd tok hsig c st _ (fun c' hc => hl c' (by simpa [loopsOf] using hc)) h)
  | .loop c, st, Q, hl, h => by
    simp only [evC] at h
    split at h
    · rename_i lc h0
      split at h
      · rename_i cs res h1
        obtain ⟨h2, h3⟩ := allT_r h
        exact hl c (by simp [loopsOf]) lc h0 st cs res h1 h2 Q h3
      · exact h.elim
    · exact h.elim
  | .exit id, st, Q, hl, h => by
    simp only [evC] at h
    split at h
    · split at h
      · rename_i st' h1
        intro R w0 μ a w hr
        obtain ⟨μ', hs⟩ := fin_r (ops := #[]) (srel_toRS hr) h1
        exact wp_exit ⟨st', μ', h, hs⟩
      · exact h.elim
    · exact .exit h
  | .ret, st, Q, hl, h => .ret h
  | .label l, st, Q, hl, h => .label h
  | .rangeFunc _ _ _ _, st, Q, hl, h => h.elim
  | .scope _, st, Q, hl, h => h.elim
  | .goto _, st, Q, hl, h => h.elim
  | .refuse _, st, Q, hl, h => h.elim

/-! ### the state weakened -/
def closed (st : St) : Bool := (st.s.all fun p => (refAV p.2).all fun n => (match look st.b n with | some _ => true | none => false)) && (st.b.all fun p => (refBlk p.2).all fun n => (match look st.b n with | some _ => true | none => false))
def AllS {α : Type} (l : List (Nat × α)) (m : List (Nat × α)) : Prop := match l with
  | [] => True
  | p :: l => look m p.1 = some p.2 ∧ AllS l m
theorem allS_r {α : Type} {m : List (Nat × α)} : ∀ {l : List (Nat × α)}, AllS l m → ∀ i x, look l i = some x → look m i = some x
  | p :: l, h, i, x, hx => by
    simp only [look] at hx
    cases hb : Nat.beq p.1 i with
    | true =>
      rw [hb] at hx
      obtain rfl := Option.some.inj hx
      rw [← Nat.eq_of_beq_eq_true hb]
      exact h.1
    | false => rw [hb] at hx; exact allS_r h.2 i x hx
section
variable {R : RT} {P : Program} {w0 w w' : World} {N : Nat} {μ μ' : Nat → Gh} {st st' : St} {a : Act} {c : Code} {Q : Exit → St → Prop}
theorem srel_weak (h : SRel R w0 N μ st a w) (h1 : ∀ i x, look st'.s i = some x → look st.s i = some x) (h2 : ∀ i x, look st'.b i = some x → look st.b i = some x) (hc : closed st' = true) : ∃ μ', SRel R w0 N μ' st' a w := by
  unfold closed at hc
  rw [Bool.and_eq_true] at hc
  have hs : ∀ n, (match look st'.b n with | some _ => true | none => false) = true → (look st'.b n).isSome = true := by
    intro n hn
    cases hq : look st'.b n with
    | none => rw [hq] at hn; cases hn
    | some _ => rfl
  refine ⟨fun n => if (look st'.b n).isSome = true then μ n else .dead, h.size, h.dfr, fun i x hl => ?_, ?_⟩
  · obtain ⟨u, p1, p2⟩ := h.sl i x (h1 i x hl)
    refine ⟨u, p1, p2.sub (fun n => (look st'.b n).isSome = true) (fun b hb => ?_)⟩
    obtain ⟨p, hp, he, _⟩ := look_mem hl
    have := List.all_eq_true.1 hc.1 p hp
    rw [he] at this
    exact hs b (List.all_eq_true.1 this b hb)
  · refine h.mem.sub (fun n => (look st'.b n).isSome = true) (fun n k hk => ⟨by rw [hk]; rfl, k, h2 n k hk, fun h => h, fun b hb => ?_⟩) (fun n hn hns => by rw [hn] at hns; cases hns)
    obtain ⟨p, hp, he, _⟩ := look_mem hk
    have := List.all_eq_true.1 hc.2 p hp
    rw [he] at this
    exact hs b (List.all_eq_true.1 this b hb)
theorem EV.weak (h : EV P N c st' Q) (h1 : AllS st'.s st.s) (h2 : AllS st'.b st.b) (hc : closed st' = true) : EV P N c st Q := by
  intro R w0 μ a w hr
  obtain ⟨μ', hr'⟩ := srel_weak hr (allS_r h1) (allS_r h2) hc
  exact h R w0 μ' a w hr'

/-! ### nil taken for a row of one's own -/
def fresh0 (st : St) (n : Nat) : Bool := (st.b.all fun p => !(Nat.beq p.1 n)) && (st.s.all fun p => !(nmem n (refAV p.2))) && (st.b.all fun p => !(nmem n (refBlk p.2)))
theorem look_none {α : Type} {l : List (Nat × α)} {n : Nat} (h : ∀ p, p ∈ l → p.1 ≠ n) : look l n = none := by
  induction l with
  | nil => rfl
  | cons p l ih =>
    simp only [look]
    cases hb : Nat.beq p.1 n with
    | true => exact absurd (Nat.eq_of_beq_eq_true hb) (h p (by simp))
    | false => exact ih fun q hq => h q (by simp [hq])
/-- A row of one's own with nothing in it: of a flat kind, or one whose elements own rows. -/
def nilG : Bool → Gh
  | false => .row (.slice none 0 0)
  | true => .deep (.slice none 0 0) (fun _ _ => .slice none 0 0)
def nilB (dp : Bool) (k : K) : Blk := bif dp then .deep k [] none else .arr k []
theorem nilG_own {dp : Bool} {B : Nat} (h : (nilG dp).own B) : False := by
  cases dp with
  | false => simp [nilG, Gh.own, Value.ownBlock] at h
  | true => simp [nilG, Gh.own, Value.ownBlock] at h
theorem nilG_main (dp : Bool) : (nilG dp).main = .row (.slice none 0 0) := by cases dp <;> rfl
theorem nilB_br {dp : Bool} {k : K} {base n : Nat} (h : μ n = nilG dp) : BR R base w μ n (nilB dp k) := by
  cases dp with
  | false => exact ⟨_, [], h, ⟨by simp, .inl ⟨rfl, rfl⟩⟩, trivial⟩
  | true =>
    refine ⟨_, _, [], h, ⟨by simp, .inl ⟨rfl, rfl⟩⟩, fun i j B hB => ?_, fun i j i' j' B hB => ?_, fun i j B hB => ?_, fun i x hx => by simp at hx⟩
    all_goals simp [Value.ownBlock] at hB
theorem nilB_ref (dp : Bool) (k : K) : refBlk (nilB dp k) = [] := by cases dp <;> rfl
theorem good_nil (dp : Bool) {n : Nat} : ∀ B, Good R μ B → Good R (fun m => if m = n then nilG dp else μ m) B := by
  intro B h
  refine ⟨h.1, fun m hm => ?_⟩
  by_cases e : m = n
  · simp only [e, if_true] at hm; exact nilG_own hm
  · simp [e] at hm; exact h.2 m hm
/-- A name that is free taken for nothing. -/
theorem fresh_r {n : Nat} (h : SRel R w0 N μ st a w) (hf : fresh0 st n = true) : look st.b n = none ∧ (∀ {i x}, look st.s i = some x → ∀ b, b ∈ refAV x → b ≠ n) ∧ (∀ {i x}, look st.b i = some x → ∀ b, b ∈ refBlk x → b ≠ n) := by
  unfold fresh0 at hf
  simp only [Bool.and_eq_true] at hf
  obtain ⟨⟨f1, f2⟩, f3⟩ := hf
  refine ⟨look_none fun p hp e => ?_, fun {i x} hl b hb e => ?_, fun {i x} hl b hb e => ?_⟩
  · have := List.all_eq_true.1 f1 p hp
    rw [e, Nat.beq_refl] at this
    cases this
  · obtain ⟨p, hp, he, _⟩ := look_mem hl
    have := List.all_eq_true.1 f2 p hp
    rw [he] at this
    subst e
    rw [nmem_iff.2 hb] at this
    cases this
  · obtain ⟨p, hp, he, _⟩ := look_mem hl
    have := List.all_eq_true.1 f3 p hp
    rw [he] at this
    subst e
    rw [nmem_iff.2 hb] at this
    cases this
theorem mem_nil {n : Nat} (dp : Bool) {k : K} {bs' : List (Nat × Blk)} (h : SRel R w0 N μ st a w) (hf : fresh0 st n = true) (hbn : look bs' n = some (nilB dp k)) (hbo : ∀ m, m ≠ n → (look bs' m = none → look st.b m = none) ∧ ∀ kk, look bs' m = some kk → BR R w0.heap.size w (fun m => if m = n then nilG dp else μ m) m kk) :
    Mem R w0 (fun m => if m = n then nilG dp else μ m) bs' w := by
  obtain ⟨hnb, hns, hnk⟩ := fresh_r h hf
  refine ⟨fun m kk hk => ?_, fun m hm => ?_, fun m m' B q1 q2 => ?_, h.mem.below, h.mem.res, h.mem.fsz, fun k hk hkp => ⟨(h.mem.frm k hk hkp).1, fun m hm => ?_⟩⟩
  rotate_right
  · by_cases e : m = n
    · simp only [e, if_true] at hm; exact nilG_own hm
    · simp [e] at hm; exact (h.mem.frm k hk hkp).2 m hm
  · by_cases e : m = n
    · rw [e, hbn] at hk
      obtain rfl := Option.some.inj hk
      rw [e]
      exact nilB_br (if_pos rfl)
    · exact (hbo m e).2 kk hk
  · by_cases e : m = n
    · rw [e, hbn] at hm; cases hm
    · rw [if_neg e]; exact h.mem.dead m ((hbo m e).1 hm)
  · by_cases e1 : m = n
    · simp only [e1, if_true] at q1; exact (nilG_own q1).elim
    · by_cases e2 : m' = n
      · simp only [e2, if_true] at q2; exact (nilG_own q2).elim
      · simp [e1] at q1; simp [e2] at q2; exact h.mem.inj m m' B q1 q2
theorem br_nil {n : Nat} (dp : Bool) (h : SRel R w0 N μ st a w) (hf : fresh0 st n = true) {m : Nat} {kk : Blk} (e : m ≠ n) (hk : look st.b m = some kk) : BR R w0.heap.size w (fun m => if m = n then nilG dp else μ m) m kk :=
  (h.mem.bl m kk hk).sub (if_neg e) (good_nil dp) (fun b hb => by rw [if_neg ((fresh_r h hf).2.2 hk b hb)])
theorem srel_nilrow {i n : Nat} {k : K} (dp : Bool) (h : SRel R w0 N μ st a w) (hi : look st.s i = some (.v (.c nilsl))) (hf : fresh0 st n = true) : SRel R w0 N (fun m => if m = n then nilG dp else μ m) ⟨put st.s i (.v (.c (.own n))), put st.b n (nilB dp k)⟩ a w := by
  obtain ⟨hnb, hns, hnk⟩ := fresh_r h hf
  refine ⟨h.size, h.dfr, fun j x hl => ?_, mem_nil dp h hf (by rw [look_put, if_pos rfl]) (fun m e => ⟨fun hm => by rw [look_put, if_neg e] at hm; exact hm, fun kk hk => by rw [look_put, if_neg e] at hk; exact br_nil dp h hf e hk⟩)⟩
  rw [look_put] at hl
  by_cases e : j = i
  · rw [if_pos e] at hl
    obtain rfl := Option.some.inj hl
    obtain ⟨u, p1, p2⟩ := h.sl i _ hi
    have hu : u = .slice none 0 0 := by cases p2 with | val _ => rfl
    subst hu
    exact ⟨_, by rw [e]; exact p1, .own (by rw [if_pos rfl]; exact nilG_main dp) ⟨_, _, _, rfl⟩⟩
  · rw [if_neg e] at hl
    obtain ⟨u, p1, p2⟩ := h.sl j x hl
    exact ⟨u, p1, p2.mono (drop_cell (good_nil dp)) fun b hb => by rw [if_neg (hns hl b hb)]⟩
/-- A slot that holds nil, or the row n. -/
def rowAt (st : St) (i : Nat) (k : K) (n : Nat) : Option (List (ty k)) :=
  match look st.s i with
  | some (.v (.c (.val (.slice none 0 0)))) => bif fresh0 st n then some [] else none
  | some (.v (.c (.own b))) => bif Nat.beq b n then match look st.b n with
    | some (.arr k' xs) => if h : k'.no = k.no then some ((elemsOf.K.no_inj h) ▸ xs) else none
    | _ => none
    else none
  | _ => none
theorem EV.congr (h : EV P N c st' Q) (h1 : ∀ i, look st'.s i = look st.s i) (h2 : ∀ i, look st'.b i = look st.b i) : EV P N c st Q :=
  fun R w0 μ a w hr => h R w0 μ a w ⟨hr.size, hr.dfr, fun i x hl => hr.sl i x (by rw [← h1]; exact hl), ⟨fun n k hk => hr.mem.bl n k (by rw [← h2]; exact hk), fun n hn => hr.mem.dead n (by rw [← h2]; exact hn), hr.mem.inj, hr.mem.below, hr.mem.res, hr.mem.fsz, hr.mem.frm⟩⟩
theorem EV.rowAt {i n : Nat} {k : K} {xs : List (ty k)} (hx : rowAt st i k n = some xs) (h : EV P N c ⟨put st.s i (.v (.c (.own n))), put st.b n (.arr k xs)⟩ Q) : EV P N c st Q := by
  unfold Ytoknhjmcoleejaa.rowAt at hx
  split at hx
  · rename_i hi
    cases hf : fresh0 st n with
    | false => rw [hf] at hx; cases hx
    | true =>
      rw [hf] at hx
      obtain rfl := Option.some.inj hx
      exact fun R w0 μ a w hr => h R w0 _ a w (srel_nilrow false hr hi hf)
  · rename_i b hi
    cases hb : Nat.beq b n with
    | false => rw [hb] at hx; cases hx
    | true =>
      rw [hb, cond_true] at hx
      obtain rfl := Nat.eq_of_beq_eq_true hb
      split at hx
      · rename_i k' xs' hk
        split at hx
        · rename_i hno
          obtain rfl := elemsOf.K.no_inj hno
          obtain rfl := Option.some.inj hx
          refine h.congr (fun j => ?_) (fun j => ?_)
          · simp only [look_put]
            by_cases e : j = i
            · rw [if_pos e, e, hi]
            · rw [if_neg e]
          · simp only [look_put]
            by_cases e : j = b
            · rw [if_pos e, e, hk]
            · rw [if_neg e]
        · cases hx
      · cases hx
  · cases hx
end
end Go.Proofs.Ytoknhjmcoleejaa
