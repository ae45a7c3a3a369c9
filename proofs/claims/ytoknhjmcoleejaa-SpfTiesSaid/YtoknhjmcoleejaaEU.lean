/- A function's contract out of its body's word EV. No condition. -/
import Derived.Test.YtoknhjmcoleejaaET
import Derived.Laws.Sem
set_option linter.unusedVariables false
set_option linter.unusedSimpArgs false
namespace Go.Proofs.Ytoknhjmcoleejaa
open Go.RowKit
section
variable {R : RT} {P : Program} {w0 w w' : World} {N : Nat} {μ μ' : Nat → Gh} {st : St} {a : Act}
def rt (w : World) (G : Nat → Prop) : RT := ⟨fun B => B < w.heap.size ∧ ¬ G B, w, fun _ => False⟩
def resRun (a : Array Value) : ResultVar → Sem Value
  | .tmp t => pure (a.getD t undef)
  | .cell b t => do loadVar t (← asAddr (a.getD b undef))
theorem resVs_run (tok : TOK P) (hs : SRel R w0 N μ st a w) : ∀ {l : List ResultVar} {xs : List V1}, resVs st l = some xs → ∃ us : List Value, (l.mapM (resRun a.tmps)).run P w = .ok us w ∧ V1sR w μ (Good R μ) xs us ∧ us.length = l.length
  | [], xs, h => by
    simp only [resVs, Option.some.injEq] at h
    subst h
    exact ⟨[], by simp, trivial, rfl⟩
  | rv :: l, xs, h => by
    simp only [resVs] at h
    split at h
    · rename_i v vs h1 h2
      simp only [Option.some.injEq] at h
      subst h
      obtain ⟨u, q1, q2⟩ := resV_run tok hs h1
      obtain ⟨us, q3, q4, q5⟩ := resVs_run tok hs h2
      have q1' : (resRun a.tmps rv).run P w = .ok u w := by cases rv <;> exact q1
      exact ⟨u :: us, by rw [List.mapM_cons]; simp [q1', q3], ⟨q2, q4⟩, by simp [q5]⟩
    · cases h
theorem results_run {fn : Func} {us : List Value} (h : (fn.results.toList.mapM (resRun a.tmps)).run P w = .ok us w) : (results fn a.tmps).run P w = .ok (if h : us.length = 1 then us[0] else .tuple us.toArray) w := by
  have h1 : (fn.results.mapM (resRun a.tmps)).run P w = .ok us.toArray w := by
    rw [Array.mapM_eq_mapM_toList]
    simp [h]
  have h2 : results fn a.tmps = (do let vs ← fn.results.mapM (resRun a.tmps); pure (if h : vs.size = 1 then vs[0] else .tuple vs)) := rfl
  rw [h2]
  simp [h1]
theorem pack_r {G : Nat → Prop} : ∀ {ys : List V1} {us : List Value}, V1sR w μ G ys us → AVR w μ G (packV ys) (if h : us.length = 1 then us[0] else .tuple us.toArray)
  | [], [], _ => ⟨#[], rfl, trivial⟩
  | [x], [u], h => h.1
  | x :: y :: l, u :: v :: us, h => by
    rw [dif_neg (by simp)]
    exact ⟨_, rfl, h⟩
  | [], _ :: _, h => h.elim
  | _ :: _, [], h => h.elim
  | [_], _ :: _ :: _, h => h.2.elim
  | _ :: _ :: _, [_], h => h.2.elim
theorem look_enum : ∀ {as : List AV} {n i : Nat} {x : AV}, look (enum n as) i = some x → n ≤ i ∧ as[i - n]? = some x
  | [], n, i, x, h => by cases h
  | y :: l, n, i, x, h => by
    simp only [enum, look] at h
    cases hb : Nat.beq n i with
    | true =>
      rw [hb] at h
      obtain rfl := Nat.eq_of_beq_eq_true hb
      obtain rfl := Option.some.inj h
      exact ⟨Nat.le_refl _, by simp⟩
    | false =>
      rw [hb] at h
      obtain ⟨h1, h2⟩ := look_enum h
      refine ⟨by omega, ?_⟩
      rw [show i - n = (i - (n + 1)) + 1 by omega]
      exact h2
theorem avs_get {G : Nat → Prop} : ∀ {as : List AV} {us : List Value} {i : Nat} {x : AV}, AVsR w μ G as us → as[i]? = some x → ∃ u, us[i]? = some u ∧ AVR w μ G x u
  | [], [], i, x, h, hi => by simp at hi
  | y :: as, u :: us, 0, x, h, hi => ⟨u, rfl, by simp at hi; subst hi; exact h.1⟩
  | y :: as, u :: us, i + 1, x, h, hi => by
    obtain ⟨v, h1, h2⟩ := avs_get h.2 (by simpa using hi)
    exact ⟨v, by simpa using h1, h2⟩
  | [], _ :: _, _, _, h, _ => h.elim
  | _ :: _, [], _, _, h, _ => h.elim
theorem avs_length {G : Nat → Prop} : ∀ {as : List AV} {us : List Value}, AVsR w μ G as us → as.length = us.length
  | [], [], _ => rfl
  | _ :: as, _ :: us, h => by simp [avs_length h.2]
  | [], _ :: _, h => h.elim
  | _ :: _, [], h => h.elim
theorem srel_args {G : Nat → Prop} {as : List AV} {us : List Value} (h : AVsR w dg G as us) (hn : as.length ≤ N) :
    SRel (rt w G) w N dg ⟨enum 0 as, []⟩ { tmps := us.toArray ++ Array.replicate (N - us.toArray.size) undef, defers := [] } w := by
  have hl := avs_length h
  have hm : Mem (rt w G) w dg [] w := by
    refine ⟨fun n k hk => ?_, fun n _ => rfl, fun m n B h1 _ => ?_, Below.refl _ _, fun B hB => hB.1, Nat.le_refl _, fun k hk hkp => hkp.elim⟩
    · cases hk
    · cases h1
  refine ⟨by simp; omega, rfl, fun i x hl' => ?_, hm⟩
  obtain ⟨_, h2⟩ := look_enum hl'
  obtain ⟨u, h3, h4⟩ := avs_get h (by simpa using h2)
  have hi : i < us.length := (List.getElem?_eq_some_iff.1 h3).1
  refine ⟨u, ?_, h4.mono (fun a v hg hc => ⟨hc, fun hb => hb.2 hg, fun n hn => by cases hn⟩) (fun _ _ => rfl)⟩
  rw [Array.getElem?_append_left (by simpa using hi)]
  simpa using h3

/-- What the contract says of the ending, by the kind of result. -/
def EndR (w w' : World) (G : Nat → Prop) (e : Ending) : SR → Prop
  | .fresh v => ∃ u, e = .returned u ∧ Below w.heap.size w w' ∧ AVR w' dg (fun B => w.heap.size ≤ B) v u
  | .lent v => ∃ u, e = .returned u ∧ Below w.heap.size w w' ∧ AVR w' dg (fun B => G B ∨ w.heap.size ≤ B) v u
  | .row k xs => ∃ u vals, e = .returned u ∧ Below w.heap.size w w' ∧ w'.ownsRow w.heap.size (elemT k) (width k) u xs.length vals ∧ CsR w' dg (fun B => w.heap.size ≤ B ∧ u.ownBlock ≠ some B) (flatC k xs) vals
  | .grow _ _ => False
theorem end_r (tok : TOK P) {fn : Func} {G : Nat → Prop} {v : SR} (hs : SRel (rt w0 G) w0 N μ st a w) (h : endOK fn.results.toList fn.resultTypes.toList st v) :
    ∃ u, (results fn a.tmps).run P w = .ok u w ∧ EndR w0 w G (.returned u) v := by
  have hG : ∀ B, Good (rt w0 G) μ B → G B ∨ w0.heap.size ≤ B := by
    intro B hB
    by_cases h1 : G B
    · exact .inl h1
    · refine .inr (Nat.le_of_not_lt fun h2 => hB.1 ⟨h2, h1⟩)
  cases v with
  | fresh v =>
    obtain ⟨xs, ys, h1, h2, h3, h4⟩ := h
    obtain ⟨us, q1, q2, q3⟩ := resVs_run tok hs h1
    refine ⟨_, results_run q1, _, rfl, hs.mem.below, ?_⟩
    subst h4
    exact pack_r (outVs_l (G' := fun B => w0.heap.size ≤ B) hs.mem (fun _ h => h) h3 q2 (.inr h2))
  | lent v =>
    obtain ⟨xs, ys, h1, h3, h4⟩ := h
    obtain ⟨us, q1, q2, q3⟩ := resVs_run tok hs h1
    refine ⟨_, results_run q1, _, rfl, hs.mem.below, ?_⟩
    subst h4
    exact pack_r (outVs_l (G' := fun B => G B ∨ w0.heap.size ≤ B) hs.mem (fun _ h => .inr h) h3 q2 (.inl hG))
  | row k xs =>
    obtain ⟨hf, h | h⟩ := h
    · obtain ⟨b, h1, h2⟩ := h
      obtain ⟨us, q1, q2, q3⟩ := resVs_run tok hs h1
      cases us with
      | nil => exact q2.elim
      | cons u us =>
        cases us with
        | cons _ _ => exact q2.2.elim
        | nil =>
          obtain ⟨vals, p1, p2, p3, p4⟩ := row_shape (r := ⟨[], st.b⟩) hs.mem h2 q2.1
          exact ⟨u, results_run q1, u, vals, rfl, hs.mem.below, p1, csr_noSl p2 (flatC_noSl hf xs)⟩
    · obtain ⟨h1, rfl⟩ := h
      obtain ⟨us, q1, q2, q3⟩ := resVs_run tok hs h1
      cases us with
      | nil => exact q2.elim
      | cons u us =>
        cases us with
        | cons _ _ => exact q2.2.elim
        | nil =>
          have hu : u = .slice none 0 0 := by
            have := q2.1
            cases this
            rfl
          subst hu
          exact ⟨_, results_run q1, _, [], rfl, hs.mem.below, ⟨by simp, .inl ⟨rfl, rfl⟩⟩, trivial⟩
  | grow _ _ => exact h.elim

/-- A contract from the body. -/
theorem sum_of (tok : TOK P) {f : FuncId} {fn : Func} {sm : Summary} {c : Code} (hf : P.funcs[f]? = some fn) (hname : (fn.name == "runtime.NumGoroutine") = false) (hb : fn.body = some c)
    (h : ∀ as cs res, sm as = some (cs, res) → cs.all id = true → as.length ≤ fn.ntmps ∧ EV P fn.ntmps c ⟨enum 0 as, []⟩ (endQ fn.results.toList fn.resultTypes.toList res)) : SumOK P f sm := by
  refine ⟨⟨fn, hf, hname, by rw [hb]; rfl⟩, fun w G as us cs res ha hsm hcs => ?_⟩
  obtain ⟨hn, hev⟩ := h as cs res hsm hcs
  have key : Calls P f us.toArray w fun e w' => EndR w w' G e res := by
    refine calls_of_wp hf hb (wp_mono (hev _ w dg _ w (srel_args ha hn)) ?_)
    rintro e a' w' ⟨s, m, h1, h2⟩
    cases e with
    | normal => exact ⟨h2.dfr, end_r tok h2 h1⟩
    | ret => exact ⟨h2.dfr, end_r tok h2 h1⟩
    | _ => exact h1.elim
  cases res with
  | fresh v => exact key
  | lent v => exact key
  | row k xs => exact key
  | grow k xs => exact fun _ _ _ _ _ _ _ _ => key.mono fun e w' h => h.elim
end
end Go.Proofs.Ytoknhjmcoleejaa
