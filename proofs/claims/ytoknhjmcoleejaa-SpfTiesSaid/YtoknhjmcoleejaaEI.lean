/- The operations that make or write memory. No condition. -/
import Derived.Test.YtoknhjmcoleejaaEH
set_option linter.unusedVariables false
set_option linter.unusedSimpArgs false
namespace Go.Proofs.Ytoknhjmcoleejaa
open Go.RowKit
section
variable {R : RT} {P : Program} {w0 w w' : World} {N : Nat} {ops : Array Oper} {μ μ' : Nat → Gh} {r : RS} {a : Act} {ch : List (Nat × Bool)} {o : Oper}

theorem snd_slice (c : Ctx P R w0 N ops μ r a w ch) {x y : Operand} {t : TypeId} (ho : o.op = .slice t x none (some y) none) {p q : AV} (h : rho r ch x = some p) (h' : rho r ch y = some q) {z : OR} (hz : evSlice t p none (some q) = some z)
    (hcs : z.cs.all id = true) : Snd P R w0 r o z μ a w := by
  have hp := rho_r c h
  have hq := rho_r c h'
  unfold evSlice at hz
  split at hz
  · rename_i k xs k' hk
    cases hb : Nat.beq k.no k'.no with
    | false => rw [hb] at hz; cases hz
    | true =>
      rw [hb] at hz
      have hkk := no_inj hb
      subst hkk
      have hu := sliceK_und c.tok hk
      simp only [cond_true] at hz
      split at hz
      · rename_i ik i hn heq
        cases heq
        have e2 := val_eq hq
        have hz' := Option.some.inj hz
        subst hz'
        simp at hcs
        obtain ⟨h0, h1⟩ := hcs
        have hp' : CR w μ (Good R μ) (.sl k xs) (a.eval x) := hp
        have hshape := sl_shape hp'
        obtain ⟨A, cap, hs, _⟩ := hshape
        have hcap : xs.length ≤ cap := by
          generalize hv : a.eval x = u at hp'
          cases hp' with
          | slnil => simp
          | sl f hl hg h0 hc => rw [hv] at hs; injection hs with _ _ hs; omega
        have hlen : (xs.take i.toNat).length = i.toNat := by rw [List.length_take]; omega
        have hcr : CR w μ (Good R μ) (.sl k (xs.take i.toNat)) (.slice A i.toNat cap) := by
          generalize hv : a.eval x = u at hp'
          rw [hv] at hs
          cases hp' with
          | slnil =>
            injection hs with e1 e2 e3
            subst e1; subst e3
            have : i.toNat = 0 := by simp at hlen; omega
            rw [this]
            exact CR.slnil
          | @sl _ _ A' cap' f hl hg h0' hc =>
            injection hs with e1 e2 e3
            subst e1; subst e3
            have hh := CR.sl (w := w) (μ := μ) (G := Good R μ) (k := k) (xs := xs.take i.toNat) (A := A') (cap := cap') f (by omega)
              (fun hne => hg (by intro e; subst e; simp at hne))
              (fun j x hj => h0' j x (by rw [List.getElem?_take] at hj; split at hj <;> first | exact hj | cases hj))
              (fun j x hj => hc j x (by rw [List.getElem?_take] at hj; split at hj <;> first | exact hj | cases hj))
            rwa [hlen] at hh
        refine Snd.pure c.rel.mem ?_ ⟨rfl, rfl, rfl⟩ hcr
        have hle : i ≤ cap := by omega
        by_cases hc0 : cap = 0
        · subst hc0
          have hi0 : i = 0 := by omega
          subst hi0
          simp [execOp, ho, hs, e2, Instr.sliceAt, Instr.slice, underlying, hu, el_size c.tok, Instr.sliceBounds, Instr.sliceBound, asIntOf]
        · simp [execOp, ho, hs, e2, Instr.sliceAt, Instr.slice, underlying, hu, el_size c.tok, Instr.sliceBounds, Instr.sliceBound, asIntOf, h0, hle, Addr.add, hc0]
      · cases hz
  · cases hz
theorem snd_min (c : Ctx P R w0 N ops μ r a w ch) {cl : Call} (ho : o.op = .call cl) (hb : cl.callee = .builtin .min) {x y : Int} (h : rhos r ch cl.args.toList = some [.v (.c (.val (.int .i64 x))), .v (.c (.val (.int .i64 y)))]) :
    Snd P R w0 r o (rC (i64 (if y < x then y else x))) μ a w := by
  obtain ⟨h1, h2⟩ := rhos_r c h
  obtain ⟨p, q, hpq⟩ : ∃ p q, cl.args.toList = [p, q] := by
    match hl : cl.args.toList, h1 with
    | [p, q], _ => exact ⟨p, q, rfl⟩
  rw [hpq] at h2
  have e1 := val_eq (h2 0 p _ rfl rfl)
  have e2 := val_eq (h2 1 q _ rfl rfl)
  have ha : cl.args.map a.eval = #[.int .i64 x, .int .i64 y] := by
    apply Array.ext'
    simp [hpq, e1, e2]
  refine Snd.pure c.rel.mem ?_ ⟨rfl, rfl, rfl⟩ (CR.val _ rfl)
  simp [execOp, ho, resolve, hb, invoke, builtin, ha, Builtin.min_, Builtin.min2]
theorem snd_max (c : Ctx P R w0 N ops μ r a w ch) {cl : Call} (ho : o.op = .call cl) (hb : cl.callee = .builtin .max) {x y : Int} (h : rhos r ch cl.args.toList = some [.v (.c (.val (.int .i64 x))), .v (.c (.val (.int .i64 y)))]) :
    Snd P R w0 r o (rC (i64 (if y > x then y else x))) μ a w := by
  obtain ⟨h1, h2⟩ := rhos_r c h
  obtain ⟨p, q, hpq⟩ : ∃ p q, cl.args.toList = [p, q] := by
    match hl : cl.args.toList, h1 with
    | [p, q], _ => exact ⟨p, q, rfl⟩
  rw [hpq] at h2
  have e1 := val_eq (h2 0 p _ rfl rfl)
  have e2 := val_eq (h2 1 q _ rfl rfl)
  have ha : cl.args.map a.eval = #[.int .i64 x, .int .i64 y] := by
    apply Array.ext'
    simp [hpq, e1, e2]
  refine Snd.pure c.rel.mem ?_ ⟨rfl, rfl, rfl⟩ (CR.val _ rfl)
  simp [execOp, ho, resolve, hb, invoke, builtin, ha, Builtin.max_, Builtin.max2]
theorem snd_len (c : Ctx P R w0 N ops μ r a w ch) {cl : Call} (ho : o.op = .call cl) (hb : cl.callee = .builtin .len) {x : AV} (h : rhos r ch cl.args.toList = some [x]) {n : Nat} {rb : List Nat} (hl : lenOf r x = some (n, rb))
    {t : TypeId} {k : K} (ht : cl.argTypes.toList = [t]) (hk : sliceK t = some k) : Snd P R w0 r o ⟨[], .v (.c (i64 (n : Int))), none, [], [], rb⟩ μ a w := by
  obtain ⟨h1, h2⟩ := rhos_r c h
  obtain ⟨p, hp⟩ : ∃ p, cl.args.toList = [p] := by
    match hl : cl.args.toList, h1 with
    | [p], _ => exact ⟨p, rfl⟩
  rw [hp] at h2
  obtain ⟨A, cap, e1⟩ := lenOf_r c (h2 0 p _ rfl rfl) hl
  have ha : cl.args.map a.eval = #[.slice A n cap] := by
    apply Array.ext'
    simp [hp, e1]
  have ha' : cl.argTypes = #[t] := by apply Array.ext'; simpa using ht
  refine Snd.pure c.rel.mem (u := .int .i64 n) ?_ ⟨rfl, rfl, rfl⟩ (CR.val _ rfl)
  have := len_ty (w := w) c.tok hk A n cap o.type
  simp [execOp, ho, resolve, hb, invoke, builtin, ha, ha', this]

/-! ### structs built -/
theorem partVs_r (c : Ctx P R w0 N ops μ r a w ch) : ∀ {l : List (Nat × Operand)} {vs : List (Nat × V1)}, partVs r ch l = some vs → ∃ us : List Value, l.map (fun p => (p.1, a.eval p.2)) = (vs.zip us).map (fun p => (p.1.1, p.2)) ∧ us.length = vs.length ∧
    ∀ (i : Nat) (v : Nat × V1) (u : Value), vs[i]? = some v → us[i]? = some u → V1R w μ (Good R μ) v.2 u
  | [], vs, h => by simp only [partVs, Option.some.injEq] at h; subst h; exact ⟨[], rfl, rfl, by simp⟩
  | (i, x) :: l, vs, h => by
    simp only [partVs] at h
    split at h
    · rename_i v vs' h1 h2
      have := Option.some.inj h
      subst this
      obtain ⟨us, h3, h4, h5⟩ := partVs_r c h2
      refine ⟨a.eval x :: us, by simp [h3], by simp [h4], fun j v' u hv hu => ?_⟩
      cases j with
      | zero => simp at hv hu; subst hv; subst hu; exact rho_r c h1
      | succ j => exact h5 j v' u (by simpa using hv) (by simpa using hu)
    · cases h
/-- The cells of a value laid into others: what the model's 'fill' does. -/
theorem foldl_set : ∀ (us : List Value) (j off : Nat) (cs : Array Value), ((us.zipIdx j).foldl (fun cs (p : Value × Nat) => cs.setIfInBounds (off + p.2) p.1) cs).toList = setLL cs.toList (off + j) us
  | [], _, _, _ => rfl
  | u :: us, j, off, cs => by
    simp only [List.zipIdx_cons, List.foldl_cons, setLL]
    rw [foldl_set us (j + 1) off]
    simp [Nat.add_assoc]
theorem fill_r {fs : List (Nat × TypeId)} {place : Nat → Option (Nat × Nat)} (hpl : ∀ (i off : Nat) (t : TypeId) (n : Nat), fs[i]? = some (off, t) → tySize t = some n → place i = some (off, n)) :
    ∀ {vs : List (Nat × V1)} {us : List Value} {cs ds : List C} {zs : Array Value}, us.length = vs.length → (∀ (i : Nat) (v : Nat × V1) (u : Value), vs[i]? = some v → us[i]? = some u → V1R w μ (Good R μ) v.2 u) →
    fillParts fs cs vs = some ds → CsR w μ (Good R μ) cs zs.toList → ∃ rs, Instr.fill place zs ((vs.zip us).map (fun p => (p.1.1, p.2))) = some rs ∧ CsR w μ (Good R μ) ds rs.toList
  | [], us, cs, ds, zs, hl, hr, h, hc => by
    simp only [fillParts, Option.some.injEq] at h
    subst h
    exact ⟨zs, rfl, hc⟩
  | (i, x) :: vs, [], cs, ds, zs, hl, hr, h, hc => by simp at hl
  | (i, x) :: vs, u :: us, cs, ds, zs, hl, hr, h, hc => by
    simp only [fillParts] at h
    split at h
    · rename_i off t hf
      split at h
      · rename_i n hn
        cases hb : (Nat.beq x.cs.length n && Nat.ble (off + n) cs.length) with
        | false => rw [hb] at h; cases h
        | true =>
          rw [hb] at h
          simp only [cond_true] at h
          simp only [Bool.and_eq_true] at hb
          have hb1 := Nat.eq_of_beq_eq_true hb.1
          have hb2 := Nat.le_of_ble_eq_true hb.2
          have hx := hr 0 _ u rfl rfl
          have hxc := hx.cs
          have hul : u.cells.size = n := by have := hxc.length; simp at this; omega
          have hcl : cs.length = zs.size := by simpa using hc.length
          have hset := foldl_set u.cells.toList 0 off zs
          have hnew : CsR w μ (Good R μ) (splice cs off x.cs) (u.cells.toList.zipIdx.foldl (fun cs (p : Value × Nat) => cs.setIfInBounds (off + p.2) p.1) zs).toList := by
            rw [hset]
            exact splice_csr hc hxc (by simp; omega)
          obtain ⟨rs, h1, h2⟩ := fill_r hpl (us := us) (zs := u.cells.toList.zipIdx.foldl (fun cs (p : Value × Nat) => cs.setIfInBounds (off + p.2) p.1) zs) (by simpa using hl) (fun j v u hv hu => hr (j + 1) v u (by simpa using hv) (by simpa using hu)) h hnew
          refine ⟨rs, ?_, h2⟩
          simp only [List.zip_cons_cons, List.map_cons, Instr.fill]
          have hp := hpl i off t n hf hn
          simp only [hp]
          have : ¬ (u.cells.size ≠ n ∨ off + u.cells.size > zs.size) := by omega
          simp only [Bool.or_eq_true, decide_eq_true_eq]
          rw [if_neg (by simpa using this)]
          have hz : u.cells.zipIdx.foldl (fun cs (p : Value × Nat) => cs.setIfInBounds (off + p.2) p.1) zs = u.cells.toList.zipIdx.foldl (fun cs (p : Value × Nat) => cs.setIfInBounds (off + p.2) p.1) zs := by
            rw [← Array.foldl_toList]
            simp
          rw [hz]
          exact h1
      · cases h
    · cases h
end
end Go.Proofs.Ytoknhjmcoleejaa
