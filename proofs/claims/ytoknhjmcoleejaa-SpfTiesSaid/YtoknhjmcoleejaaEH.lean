/- The operations that read memory or reckon addresses. No condition. -/
import Derived.Test.YtoknhjmcoleejaaEG
set_option linter.unusedVariables false
set_option linter.unusedSimpArgs false
namespace Go.Proofs.Ytoknhjmcoleejaa
open Go.RowKit
section
variable {R : RT} {P : Program} {w0 w w' : World} {N : Nat} {ops : Array Oper} {μ μ' : Nat → Gh} {r : RS} {a : Act} {ch : List (Nat × Bool)} {o : Oper}

theorem fieldAt_run (tok : TOK P) {s : TypeId} {fs : List (Nat × TypeId)} {n : Nat} {z : List C} {f off : Nat} {t : TypeId} (hs : look TT s = some ⟨.agg fs, n, z⟩) (hf : fs[f]? = some (off, t)) (A : Addr) :
    (Instr.fieldAt s (.pointer (some A)) f).run P w = .ok (.pointer (some (A.add off))) w := by
  obtain ⟨F, hF, hm⟩ := (tok.ty s _ hs).und
  have hf' := hf
  rw [← hm, List.getElem?_map] at hf'
  cases hg : F.toList[f]? with
  | none => rw [hg] at hf'; cases hf'
  | some fd =>
    rw [hg] at hf'
    simp only [Option.map_some, Option.some.injEq, Prod.mk.injEq] at hf'
    obtain ⟨h1, h2⟩ := hf'
    have hF2 : F[f]? = some fd := by simpa using hg
    have hx : ∃ x, look TT t = some x := by
      have key : (TT.all fun p => match p.2.sh with | .agg fs => fs.all (fun q => match look TT q.2 with | some _ => true | none => false) | _ => true) = true := by decide
      have := List.all_eq_true.1 key
      have hmem : ∃ p, p ∈ TT ∧ p.2 = ⟨.agg fs, n, z⟩ := by
        clear key this hF hm hg hf
        revert hs
        generalize TT = l
        induction l with
        | nil => intro h; cases h
        | cons p l ih =>
          intro h
          simp only [look] at h
          cases hb : Nat.beq p.1 s with
          | true => rw [hb] at h; simp only [cond_true, Option.some.injEq] at h; exact ⟨p, by simp, h⟩
          | false => rw [hb] at h; obtain ⟨q, hq, e⟩ := ih h; exact ⟨q, by simp [hq], e⟩
      obtain ⟨p, hp, e⟩ := hmem
      have h3 := this p hp
      rw [e] at h3
      simp only at h3
      have h4 := List.all_eq_true.1 h3 (off, t) (List.mem_of_getElem? hf)
      simp only at h4
      cases hl : look TT t with
      | some x => exact ⟨x, rfl⟩
      | none => rw [hl] at h4; cases h4
    obtain ⟨x, hx⟩ := hx
    have hty := tok.ty t x hx
    have hsz := sizeOf_run (w := w) hty
    rw [← h2] at hsz
    have hnz := hty.nz
    have hne : x.size ≠ 0 := by omega
    simp [Instr.fieldAt, underlying, hF, hF2, Instr.sureAddr, fieldPlace, hsz, hne, h1]

theorem snd_field (c : Ctx P R w0 N ops μ r a w ch) {x : Operand} {s : TypeId} {f : Nat} (ho : o.op = .fieldAddr s x f) {p : AV} (h : rho r ch x = some p) {z : OR} (hz : evField s p f = some z) : Snd P R w0 r o z μ a w := by
  have hp := rho_r c h
  unfold evField at hz
  split at hz
  · rename_i fs n z0 hs
    split at hz
    · rename_i off t hf
      split at hz
      · rename_i b o'
        have hz' := Option.some.inj hz
        subst hz'
        have hp' : CR w μ (Good R μ) (.ptr b o') (a.eval x) := hp
        generalize hv : a.eval x = u at hp'
        cases hp' with
        | ptr hb =>
          refine Snd.pure c.rel.mem ?_ ⟨rfl, rfl, rfl⟩ (CR.ptr hb)
          simp [execOp, ho, hv, fieldAt_run c.tok hs hf, add_mk]
      · rename_i k y o'
        have hz' := Option.some.inj hz
        subst hz'
        have hp' : CR w μ (Good R μ) (.rel k y o') (a.eval x) := hp
        generalize hv : a.eval x = u at hp'
        cases hp' with
        | rel g hg h0 hc =>
          refine Snd.pure c.rel.mem ?_ ⟨rfl, rfl, rfl⟩ (CR.rel g hg h0 hc)
          simp [execOp, ho, hv, fieldAt_run c.tok hs hf, add_add]
      · rename_i k b i o'
        have hz' := Option.some.inj hz
        subst hz'
        have hp' : CR w μ (Good R μ) (.elt k b i o') (a.eval x) := hp
        generalize hv : a.eval x = u at hp'
        cases hp' with
        | elt hb =>
          refine Snd.pure c.rel.mem ?_ ⟨rfl, rfl, rfl⟩ (CR.elt hb)
          simp [execOp, ho, hv, fieldAt_run c.tok hs hf, add_mk, Nat.add_assoc]
      · cases hz
    · cases hz
  · cases hz
theorem sliceK_und (tok : TOK P) {t : TypeId} {k : K} (h : sliceK t = some k) : P.underlying t = some (.slice (elemT k)) := by
  unfold sliceK at h
  split at h
  · rename_i k' n z hl
    have := Option.some.inj h
    subst this
    exact (tok.ty t _ hl).und
  · cases h
theorem el_size (tok : TOK P) (k : K) (w : World) : (sizeOf (elemT k)).run P w = .ok (width k) w := by
  obtain ⟨i, z, hi, hs, _⟩ := (tok.el k).info
  simp [sizeOf, typeInfo, hi, hs]
theorem no_inj {k k' : K} (h : Nat.beq k.no k'.no = true) : k = k' := elemsOf.K.no_inj (Nat.eq_of_beq_eq_true h)
/-- A slice that reads: its header. -/
theorem sl_shape {k : K} {xs : List (ty k)} {u : Value} (h : CR w μ (Good R μ) (.sl k xs) u) : ∃ A cap, u = .slice A xs.length cap ∧ (xs ≠ [] → ∃ ad, A = some ad) := by
  cases h with
  | slnil => exact ⟨none, 0, rfl, fun h => absurd rfl h⟩
  | sl f hl hg h0 hc => exact ⟨_, _, rfl, fun _ => ⟨_, rfl⟩⟩
theorem row_shape {b : Nat} {k : K} {xs : List (ty k)} (hm : Mem R w0 μ r.b w) (hl : look r.b b = some (.arr k xs)) {u : Value} (h : CR w μ (Good R μ) (.own b) u) :
    ∃ vals, w.ownsRow w0.heap.size (elemT k) (width k) u xs.length vals ∧ CsR w μ (Good R μ) (flatC k xs) vals ∧ μ b = .row u ∧ ((u = .slice none 0 0 ∧ xs = []) ∨ ∃ B cap, u = .slice (some ⟨B, 0, none⟩) xs.length cap) := by
  obtain ⟨v, vals, h1, h2, h3⟩ := hm.bl _ _ hl
  cases h with
  | own hb hs =>
    rw [h1] at hb
    injection hb with hb
    subst hb
    refine ⟨vals, h2, h3, h1, ?_⟩
    rcases h2.2 with ⟨h4, h5⟩ | ⟨g, cap, cur, h4, _⟩
    · exact .inl ⟨h4, List.eq_nil_of_length_eq_zero h5⟩
    · exact .inr ⟨g, cap, h4⟩
theorem deep_shape {b : Nat} {k : K} {xs : List (ty k)} {hole : Option (Int × Nat)} (hm : Mem R w0 μ r.b w) (hl : look r.b b = some (.deep k xs hole)) {u : Value} (h : CR w μ (Good R μ) (.own b) u) :
    ∃ f vals, μ b = .deep u f ∧ DeepOK w0.heap.size w k xs hole u f vals ∧ ((u = .slice none 0 0 ∧ xs = []) ∨ ∃ B cap, u = .slice (some ⟨B, 0, none⟩) xs.length cap) := by
  obtain ⟨v, f, vals, h1, h2⟩ := hm.bl _ _ hl
  cases h with
  | own hb hs =>
    rw [h1] at hb
    injection hb with hb
    subst hb
    refine ⟨f, vals, h1, h2, ?_⟩
    rcases h2.row.2 with ⟨h4, h5⟩ | ⟨g, cap, cur, h4, _⟩
    · exact .inl ⟨h4, List.eq_nil_of_length_eq_zero h5⟩
    · exact .inr ⟨g, cap, h4⟩
theorem snd_index (c : Ctx P R w0 N ops μ r a w ch) {x y : Operand} {t : TypeId} (ho : o.op = .indexAddr t x y) {p q : AV} (h : rho r ch x = some p) (h' : rho r ch y = some q) {z : OR} (hz : evIndex r t p q = some z)
    (hcs : z.cs.all id = true) : Snd P R w0 r o z μ a w := by
  have hp := rho_r c h
  have hq := rho_r c h'
  unfold evIndex at hz
  split at hz
  · rename_i k xs ik i
    have e2 := val_eq hq
    split at hz
    · rename_i k' hk
      cases hb : Nat.beq k.no k'.no with
      | false => rw [hb] at hz; cases hz
      | true =>
        rw [hb] at hz
        have hz' := Option.some.inj hz
        subst hz'
        have hkk := no_inj hb
        subst hkk
        have hu := sliceK_und c.tok hk
        have hi : inb i xs.length = true := by simpa using hcs
        have hi' := inb_iff.1 hi
        have hlt : i.toNat < xs.length := by omega
        have hne : xs ≠ [] := by intro e; subst e; simp at hlt
        have hp' : CR w μ (Good R μ) (.sl k xs) (a.eval x) := hp
        generalize hv : a.eval x = u at hp'
        cases hp' with
        | slnil => exact absurd rfl hne
        | @sl _ _ A cap f hl hg h0 hc =>
          have hxi : xs[i.toNat]? = some (xs.getD i.toNat (zero k)) := by simp [List.getD_eq_getElem?_getD, List.getElem?_eq_getElem hlt]
          refine Snd.pure c.rel.mem (u := .pointer (some ((A.add (i.toNat * width k)).add 0))) ?_ ⟨rfl, rfl, rfl⟩
            (CR.rel (fun j => f (i.toNat * width k + j)) (by rw [add_block]; exact hg hne) (fun j c' hj => by rw [add_add]; exact h0 _ _ hxi j c' hj) (fun j c' hj => hc _ _ hxi j c' hj))
          have h00 : ∀ A : Addr, A.add 0 = A := fun A => by simp [Addr.add]
          simp [execOp, ho, hv, e2, Instr.indexAt, asIntOf, underlying, hu, el_size c.tok, hi'.1, hi'.2, h00]
    · cases hz
  · rename_i b ik i
    have e2 := val_eq hq
    split at hz
    · rename_i k xs k' hl hk
      cases hb : Nat.beq k.no k'.no with
      | false => rw [hb] at hz; cases hz
      | true =>
        rw [hb] at hz
        have hz' := Option.some.inj hz
        subst hz'
        have hkk := no_inj hb
        subst hkk
        have hu := sliceK_und c.tok hk
        have hi : inb i xs.length = true := by simpa using hcs
        have hi' := inb_iff.1 hi
        obtain ⟨vals, h1, h2, h3, h4⟩ := row_shape c.rel.mem hl hp
        rcases h4 with ⟨_, h5⟩ | ⟨B, cap, h5⟩
        · subst h5; simp at hi'; omega
        · rw [h5] at h3
          refine Snd.pure c.rel.mem (u := .pointer (some ⟨B, i.toNat * width k + 0, none⟩)) ?_ ⟨rfl, rfl, rfl⟩ (CR.elt (by rw [h3]; rfl))
          simp [execOp, ho, h5, e2, Instr.indexAt, asIntOf, underlying, hu, el_size c.tok, hi'.1, hi'.2, add_mk]
    · rename_i k xs hole k' hl hk
      cases hb : Nat.beq k.no k'.no with
      | false => rw [hb] at hz; cases hz
      | true =>
        rw [hb] at hz
        have hz' := Option.some.inj hz
        subst hz'
        have hkk := no_inj hb
        subst hkk
        have hu := sliceK_und c.tok hk
        have hi : inb i xs.length = true := by simpa using hcs
        have hi' := inb_iff.1 hi
        obtain ⟨f, vals, h1, h2, h4⟩ := deep_shape c.rel.mem hl hp
        rcases h4 with ⟨_, h5⟩ | ⟨B, cap, h5⟩
        · subst h5; simp at hi'; omega
        · rw [h5] at h1
          refine Snd.pure c.rel.mem (u := .pointer (some ⟨B, i.toNat * width k + 0, none⟩)) ?_ ⟨rfl, rfl, rfl⟩ (CR.elt (by rw [h1]; rfl))
          simp [execOp, ho, h5, e2, Instr.indexAt, asIntOf, underlying, hu, el_size c.tok, hi'.1, hi'.2, add_mk]
    · cases hz
  · cases hz
theorem snd_load (c : Ctx P R w0 N ops μ r a w ch) {x : Operand} {t : TypeId} (ho : o.op = .load t x) {p : AV} (h : rho r ch x = some p) {z : OR} (hz : evLoad r t p = some z) (hcs : z.cs.all id = true) : Snd P R w0 r o z μ a w := by
  have hp := rho_r c h
  unfold evLoad at hz
  split at hz
  · rename_i cc
    split at hz
    · rename_i cs l rb n hr hn
      split at hz
      · rename_i v hm
        have hz' := Option.some.inj hz
        subst hz'
        obtain ⟨A, vs, h1, h2, h3⟩ := readAt_r c.rel.mem (show CR w μ (Good R μ) cc (a.eval x) from hp) hr hcs
        unfold tySize at hn
        cases hT : look TT t with
        | none => rw [hT] at hn; cases hn
        | some ty =>
          rw [hT] at hn
          simp only [Option.some.injEq] at hn
          subst hn
          obtain ⟨u, h4, h5⟩ := load_run (c.tok.ty t ty hT) h2 h3 hT hm
          refine Snd.pure c.rel.mem (u := u) ?_ ⟨rfl, rfl, rfl⟩ h5
          simp [execOp, ho, h1, h4]
      · cases hz
    · cases hz
  · cases hz
theorem lenOf_r (c : Ctx P R w0 N ops μ r a w ch) {x : AV} {u : Value} {n : Nat} {rb : List Nat} (hx : AVR w μ (Good R μ) x u) (h : lenOf r x = some (n, rb)) : ∃ A cap, u = .slice A n cap := by
  unfold lenOf at h
  split at h
  · simp only [Option.some.injEq, Prod.mk.injEq] at h
    obtain ⟨rfl, _⟩ := h
    obtain ⟨A, cap, h1, _⟩ := sl_shape (show CR w μ (Good R μ) (.sl _ _) u from hx)
    exact ⟨A, cap, h1⟩
  · split at h
    · rename_i hl
      simp only [Option.some.injEq, Prod.mk.injEq] at h
      obtain ⟨rfl, _⟩ := h
      obtain ⟨vals, _, _, _, h4⟩ := row_shape c.rel.mem hl hx
      rcases h4 with ⟨h5, h6⟩ | ⟨B, cap, h5⟩
      · exact ⟨none, 0, by rw [h5, h6]; rfl⟩
      · exact ⟨_, _, h5⟩
    · rename_i hl
      simp only [Option.some.injEq, Prod.mk.injEq] at h
      obtain ⟨rfl, _⟩ := h
      obtain ⟨f, vals, _, _, h4⟩ := deep_shape c.rel.mem hl hx
      rcases h4 with ⟨h5, h6⟩ | ⟨B, cap, h5⟩
      · exact ⟨none, 0, by rw [h5, h6]; rfl⟩
      · exact ⟨_, _, h5⟩
    · cases h
  · simp only [Option.some.injEq, Prod.mk.injEq] at h
    obtain ⟨rfl, _⟩ := h
    exact ⟨none, 0, val_eq hx⟩
  · cases h
theorem rhos_r (c : Ctx P R w0 N ops μ r a w ch) : ∀ {l : List Operand} {vs : List AV}, rhos r ch l = some vs → vs.length = l.length ∧ ∀ (i : Nat) (x : Operand) (v : AV), l[i]? = some x → vs[i]? = some v → AVR w μ (Good R μ) v (a.eval x)
  | [], vs, h => by simp only [rhos, Option.some.injEq] at h; subst h; simp
  | x :: l, vs, h => by
    simp only [rhos] at h
    split at h
    · rename_i v vs' h1 h2
      have := Option.some.inj h
      subst this
      obtain ⟨h3, h4⟩ := rhos_r c h2
      refine ⟨by simp [h3], fun i y u hy hu => ?_⟩
      cases i with
      | zero => simp at hy hu; subst hy; subst hu; exact rho_r c h1
      | succ i => exact h4 i y u (by simpa using hy) (by simpa using hu)
    · cases h
theorem len_ty {t : TypeId} {k : K} (tok : TOK P) (h : sliceK t = some k) (A : Option Addr) (n cap : Nat) (ty : TypeId) : (Builtin.len_ #[t] ty #[.slice A n cap]).run P w = .ok (.int .i64 n) w := by
  have hu := sliceK_und tok h
  simp [Builtin.len_, underlying, hu, goInt]
end
end Go.Proofs.Ytoknhjmcoleejaa
