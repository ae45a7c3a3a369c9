/- Append, and the choice between two values. No condition. -/
import Derived.Test.YtoknhjmcoleejaaEK
set_option linter.unusedVariables false
set_option linter.unusedSimpArgs false
namespace Go.Proofs.Ytoknhjmcoleejaa
open Go.RowKit
section
variable {R : RT} {P : Program} {w0 w w' : World} {N : Nat} {ops : Array Oper} {μ μ' : Nat → Gh} {r : RS} {a : Act} {ch : List (Nat × Bool)} {o : Oper}

/-- A slice's cells laid out. -/
theorem sl_cells {k : K} {xs : List (ty k)} {u : Value} {G : Nat → Prop} (h : CR w μ G (.sl k xs) u) : ∃ A cap news, u = .slice A xs.length cap ∧ CsR w μ G (flatC k xs) news ∧ (∀ ad, A = some ad → At w ad news) ∧ (A = none → xs = []) := by
  cases h with
  | slnil => exact ⟨none, 0, [], rfl, by simp [flatC, CsR], by simp, fun _ => rfl⟩
  | @sl _ _ A cap f hl hg h0 hc =>
    have hw := width_pos k
    have hsplit : ∀ p c, (flatC k xs)[p]? = some c → ∃ x, xs[p / width k]? = some x ∧ (cells k x)[p % width k]? = some c := by
      intro p c hp
      have hlt : p < xs.length * width k := by
        have := (List.getElem?_eq_some_iff.1 hp).1
        rwa [flatC_length] at this
      have hi : p / width k < xs.length := by rw [Nat.div_lt_iff_lt_mul hw]; exact hlt
      refine ⟨xs[p / width k], List.getElem?_eq_getElem hi, ?_⟩
      have := flatC_get k xs (p / width k) (p % width k) _ (List.getElem?_eq_getElem hi) (Nat.mod_lt p hw)
      rw [Nat.mul_comm, Nat.div_add_mod] at this
      rw [← this, hp]
    have hidx : ∀ p, p / width k * width k + p % width k = p := fun p => by rw [Nat.mul_comm]; exact Nat.div_add_mod p (width k)
    refine ⟨_, cap, (List.range (flatC k xs).length).map f, rfl, CsR.of_get (by simp) fun p c v hp hv => ?_, fun ad e p v hv => ?_, fun e => by cases e⟩
    · obtain ⟨x, h1, h2⟩ := hsplit p c hp
      have hlt := (List.getElem?_eq_some_iff.1 hp).1
      rw [List.getElem?_map, List.getElem?_range hlt] at hv
      simp at hv
      subst hv
      have := hc _ x h1 _ c h2
      rwa [hidx] at this
    · cases e
      have hlt : p < (flatC k xs).length := by
        have := (List.getElem?_eq_some_iff.1 hv).1
        simpa using this
      rw [List.getElem?_map, List.getElem?_range hlt] at hv
      simp at hv
      subst hv
      obtain ⟨x, h1, h2⟩ := hsplit p _ (List.getElem?_eq_getElem hlt)
      have := h0 _ x h1 _ _ h2
      rwa [hidx] at this
theorem row_cells {base : Nat} {k : K} {xs : List (ty k)} {vals : List Value} {u : Value} (h : w.ownsRow base (elemT k) (width k) u xs.length vals) : ∃ A cap, u = .slice A xs.length cap ∧ (∀ ad, A = some ad → At w ad vals) ∧ (A = none → xs = []) := by
  rcases h.2 with ⟨h1, h2⟩ | ⟨g, cap, cur, h1, h2⟩
  · exact ⟨none, 0, by rw [h1, h2], by simp, fun _ => List.eq_nil_of_length_eq_zero h2⟩
  · refine ⟨_, cap, h1, fun ad e j v hj => ?_, fun e => by cases e⟩
    cases e
    exact h.cells (by rw [h1]; rfl) j v hj
theorem elemsOf_r (c : Ctx P R w0 N ops μ r a w ch) {k : K} {x : AV} {u : Value} (hx : AVR w μ (Good R μ) x u) {ys : List (ty k)} {rb : List Nat} (h : elemsOf r k x = some (ys, rb)) :
    ∃ A cap news, u = .slice A ys.length cap ∧ CsR w μ (Good R μ) (flatC k ys) news ∧ (∀ ad, A = some ad → At w ad news) ∧ (A = none → ys = []) := by
  unfold elemsOf at h
  split at h
  · rename_i k' xs
    split at h
    · rename_i hk
      have hkk := elemsOf.K.no_inj hk
      subst hkk
      simp only [Option.some.injEq, Prod.mk.injEq] at h
      obtain ⟨rfl, _⟩ := h
      exact sl_cells hx
    · cases h
  · rename_i b
    split at h
    · rename_i k' xs hl
      split at h
      · rename_i hk
        have hkk := elemsOf.K.no_inj hk
        subst hkk
        simp only [Option.some.injEq, Prod.mk.injEq] at h
        obtain ⟨rfl, _⟩ := h
        obtain ⟨vals, h1, h2, h3, h4⟩ := row_shape c.rel.mem hl hx
        obtain ⟨A, cap, q1, q2, q3⟩ := row_cells h1
        exact ⟨A, cap, vals, q1, h2, q2, q3⟩
      · cases h
    · cases h
  · simp only [Option.some.injEq, Prod.mk.injEq] at h
    obtain ⟨rfl, _⟩ := h
    exact ⟨none, 0, [], val_eq hx, by simp [flatC, CsR], by simp, fun _ => rfl⟩
  · cases h
theorem append_run0 (tok : TOK P) {t : TypeId} {k : K} (hk : sliceK t = some k) (tr : TypeId) {base : Nat} {v : Value} {n m : Nat} {vals : List Value} (hown : w.ownsRow base (elemT k) (width k) v n vals)
    {A : Option Addr} {cap : Nat} {news : List Value} (hn1 : ∀ u ∈ news, u.oneCell' = true) (hnl : news.length = m * width k) (hat : ∀ ad, A = some ad → At w ad news) (hnil : A = none → m = 0) (hb : base ≤ w.heap.size)
    (hroom : (n + m) * bytesT k ≤ 140737488355328) :
    ∃ v' w', (Builtin.append_ #[t, t] tr #[v, .slice A m cap]).run P w = .ok v' w' ∧ w'.ownsRow base (elemT k) (width k) v' (n + m) (vals ++ news) ∧ w.grownBy w' v.ownBlock ∧ (v'.ownBlock = v.ownBlock ∨ v'.ownBlock = some w.heap.size) ∧ (∃ a n c, v' = .slice a n c) := by
  have hu := sliceK_und tok hk
  obtain ⟨i, zv, hi, hs, hby, hzv, hzs, hzr⟩ := (tok.el k).info
  have hsh : ∀ {v' : Value} {w' : World} {q : Nat} {xs : List Value}, World.ownsRow w' base (elemT k) (width k) v' q xs → ∃ a n c, v' = .slice a n c := by
    intro v' w' q xs h
    rcases h.2 with ⟨h1, _⟩ | ⟨g, cap, cur, h1, _⟩
    · exact ⟨_, _, _, h1⟩
    · exact ⟨_, _, _, h1⟩
  rcases A with _ | ad
  · have he := hnil rfl
    subst he
    have hnn : news = [] := List.eq_nil_of_length_eq_zero (by simpa using hnl)
    subst hnn
    refine ⟨v, w, ?_, by simpa using hown, ⟨rfl, rfl, rfl, Nat.le_refl _, fun _ _ _ => rfl⟩, .inl rfl, hsh hown⟩
    rcases hown.2 with ⟨rfl, h0⟩ | ⟨g, cap', cur, rfl, _, _, hnc, _⟩
    · simp [Builtin.append_, run_underlying hu, sizeOf, typeInfo, hi, Builtin.lenOf, Builtin.firstCells, h0]
    · simp [Builtin.append_, run_underlying hu, sizeOf, typeInfo, hi, Builtin.lenOf, Builtin.firstCells, hnc, storeCells]
  · have hlen : n + m ≤ maxLen := by
      have : (n + m) * 1 ≤ (n + m) * bytesT k := Nat.mul_le_mul_left _ (bytes_pos k)
      simp only [maxLen]
      omega
    obtain ⟨v', w', h1, h2, h3, h4, h5⟩ := run_append_own_at (P := P) w base t tr (elemT k) i zv (width k) (bytesT k) hu hi hzv hs hby hzs (width_pos k) v n vals hown ad m cap news hnl (hat ad rfl) hn1 hlen hroom hb
    exact ⟨v', w', h1, h2, h3, h5, hsh h2⟩
theorem append_run (tok : TOK P) {t : TypeId} {k : K} (hk : sliceK t = some k) (tr : TypeId) {base : Nat} {v : Value} {xs : List (ty k)} {vals : List Value} (hown : w.ownsRow base (elemT k) (width k) v xs.length vals)
    {A : Option Addr} {cap : Nat} {ys : List (ty k)} {news : List Value} (hn : CsR w μ (Good R μ) (flatC k ys) news) (hat : ∀ ad, A = some ad → At w ad news) (hnil : A = none → ys = []) (hb : base ≤ w.heap.size)
    (hroom : (xs.length + ys.length) * bytesT k ≤ 140737488355328) :
    ∃ v' w', (Builtin.append_ #[t, t] tr #[v, .slice A ys.length cap]).run P w = .ok v' w' ∧ w'.ownsRow base (elemT k) (width k) v' (xs ++ ys).length (vals ++ news) ∧ w.grownBy w' v.ownBlock ∧ (v'.ownBlock = v.ownBlock ∨ v'.ownBlock = some w.heap.size) ∧ (∃ a n c, v' = .slice a n c) := by
  have hnl : news.length = ys.length * width k := by rw [← hn.length, flatC_length]
  obtain ⟨v', w', h1, h2, h3⟩ := append_run0 tok hk tr hown hn.one hnl hat (fun e => by rw [hnil e]; rfl) hb hroom
  exact ⟨v', w', h1, by rw [List.length_append]; exact h2, h3⟩
theorem snd_append (c : Ctx P R w0 N ops μ r a w ch) {cl : Call} (ho : o.op = .call cl) (hb : cl.callee = .builtin .append) {s x : AV} (h : rhos r ch cl.args.toList = some [s, x]) {t t' : TypeId} (ht : cl.argTypes.toList = [t, t']) (htt : Nat.beq t t' = true)
    {z : OR} (hz : evAppend r o.dst t s x = some z) (hcs : z.cs.all id = true) (hfree : ∀ k, z.nb = some k → ∀ d, o.dst = some d → look r.b d = none) : Snd P R w0 r o z μ a w := by
  obtain ⟨h1, h2⟩ := rhos_r c h
  obtain ⟨p, q, hpq⟩ : ∃ p q, cl.args.toList = [p, q] := by
    match hl : cl.args.toList, h1 with
    | [p, q], _ => exact ⟨p, q, rfl⟩
  rw [hpq] at h2
  have hs := h2 0 p _ rfl rfl
  have hx := h2 1 q _ rfl rfl
  have ha : cl.args.map a.eval = #[a.eval p, a.eval q] := by
    apply Array.ext'
    simp [hpq]
  have he := Nat.eq_of_beq_eq_true htt
  subst he
  have ha' : cl.argTypes = #[t, t] := by apply Array.ext'; simpa using ht
  have hexec : ∀ {v' w'}, (Builtin.append_ #[t, t] o.type #[a.eval p, a.eval q]).run P w = .ok v' w' → (execOp a.eval o).run P w = .ok (.value v') w' := by
    intro v' w' hr
    simp [execOp, ho, resolve, hb, invoke, builtin, ha, ha', hr]
  unfold evAppend at hz
  split at hz
  · rename_i k b hk
    split at hz
    · rename_i k' xs hl
      split at hz
      · rename_i ys rb hel hkk
        have hz' := Option.some.inj hz
        subst hz'
        have hke := no_inj hkk
        subst hke
        obtain ⟨vals, q1, q2, q3, q4⟩ := row_shape c.rel.mem hl hs
        obtain ⟨A, cap, news, e1, e2, e3, e4⟩ := elemsOf_r c hx hel
        have hroom := roomy_iff.1 (show roomy xs.length ys.length (bytesT k) = true by simpa using hcs)
        obtain ⟨v', w', f1, f2, f3, f4, f5⟩ := append_run c.tok hk o.type q1 e2 e3 e4 c.rel.mem.below.size hroom
        rw [← e1] at f1
        intro K Q hK
        have hst : Step μ (fun n => if n = b then Gh.row v' else μ n) w w' (· = b) := by
          refine Step.one f3 (fun B hB => by rw [q3]; exact hB) (fun n hn => by simp [hn]) (fun B hB => ?_)
          rw [q3]
          have hB : v'.ownBlock = some B := by simpa [Gh.own] using hB
          rcases f4 with f4 | f4
          · exact .inl (show (a.eval p).ownBlock = some B from f4 ▸ hB)
          · right; rw [f4] at hB; injection hB with hB; omega
        refine wp_value (hexec f1) (hK v' (fun n => if n = b then Gh.row v' else μ n) w' ⟨fun _ _ => CR.own (by simp [Gh.main]) f5, ?_, fun y zz hy => ?_⟩)
        · have hfin : Mem R w0 (fun n => if n = b then Gh.row v' else μ n) (putBs (killRS b r).b [(b, .arr k (xs ++ ys))]) w' := by
            refine hst.mem2 c.rel.mem (blk := .arr k (xs ++ ys)) (by simp [putBs, look_put]) ⟨v', vals ++ news, by simp, f2, ?_⟩ (fun n hn => by simp [putBs, look_put, hn, killRS, look_mapV, look_del])
            rw [flatC_append]
            exact (hst.csr q2 (fun n hr => by rw [flatC_noref] at hr; cases hr)).append (hst.csr e2 (fun n hr => by rw [flatC_noref] at hr; cases hr))
          unfold after
          cases o.dst <;> exact hfin
        · exact hst.avr (killAV_r b hy) (fun n hr hn => absurd hn (killAV_ref b y n hr).1)
      · cases hz
    · cases hz
  · rename_i k hk
    split at hz
    · rename_i ys rb d hel hd
      have hz' := Option.some.inj hz
      subst hz'
      have hfd := hfree _ rfl d hd
      obtain ⟨A, cap, news, e1, e2, e3, e4⟩ := elemsOf_r c hx hel
      have hroom := roomy_iff.1 (show roomy 0 ys.length (bytesT k) = true by simpa using hcs)
      have es := val_eq hs
      obtain ⟨v', w', f1, f2, f3, f4, f5⟩ := append_run (xs := ([] : List (ty k))) c.tok hk o.type (World.ownsRow_nil w w0.heap.size (elemT k) (width k)) e2 e3 e4 c.rel.mem.below.size (by simpa using hroom)
      rw [← e1, ← es] at f1
      intro K Q hK
      have hbel : Below w.heap.size w w' := ⟨f3.os, f3.tape, f3.output, f3.size, fun q hq => f3.block q hq (by simp [Value.ownBlock])⟩
      have hg : ∀ B, (Gh.row v').own B → w.heap.size ≤ B := by
        intro B hB
        simp only [Gh.own] at hB
        rcases f4 with f4 | f4
        · rw [f4] at hB; simp [Value.ownBlock] at hB
        · rw [f4] at hB; injection hB with hB; omega
      refine wp_value (hexec f1) (hK v' (fun n => if n = d then Gh.row v' else μ n) w' (post_new c hfd hd ⟨rfl, rfl, rfl⟩ hbel hg (CR.own (by simp [Gh.main]) f5) ?_))
      refine ⟨v', _, by simp, by simpa using f2, ?_⟩
      have hst := step_new (w := w) (w' := w') (c.rel.mem.dead d hfd) (Gh.row v') hbel hg
      exact hst.csr (by simpa using e2) (fun n hr => by rw [flatC_noref] at hr; cases hr)
    · cases hz
  · cases hz

/-! ### the choice -/
theorem pick_side (c : Ctx P R w0 N ops μ r a w ch) {cnd x : Operand} {g : Bool} {tx : Tag} {vx : Value} (hg : a.eval cnd = .bool g) (hc : rho r ch cnd = some (.v (.c (.val (.bool g))))) (hx : opd r x = some (tx, .v (.c (.val vx)))) {s : Bool}
    (hp : pickable ops ch cnd s tx = true) (hs : g = s) : a.eval x = vx := by
  cases x with
  | tmp t =>
    simp only [opd] at hx
    obtain ⟨u, hu, htr⟩ := c.rel.sl t tx _ hx
    have he : a.eval (.tmp t) = u := by simp [Act.eval, hu]
    rw [he]
    cases tx with
    | none => exact val_eq htr
    | some jw =>
      obtain ⟨j, wt⟩ := jw
      have hy : yielded ops a.tmps j = some wt := by
        simp only [pickable, Bool.or_eq_true, Bool.and_eq_true] at hp
        rcases hp with hp | ⟨hp1, hp2⟩
        · simp only [tagIn, List.any_eq_true, Bool.and_eq_true] at hp
          obtain ⟨p, hpm, hb1, hb2⟩ := hp
          have h1 := Nat.eq_of_beq_eq_true hb1
          have h2 : p.2 = wt := by cases wt <;> simpa using hb2
          have := c.ch p hpm
          rwa [h1, h2] at this
        · have hsw : wt = s := by cases s <;> simpa using hp1
          split at hp2
          · rename_i tt d hd
            have e := Nat.eq_of_beq_eq_true hp2
            subst e
            unfold yielded
            have : (ops[j]?).bind (·.dst) = some tt := hd
            rw [this]
            have hev : a.tmps[tt]? = some (.bool g) := by
              unfold rho at hc
              simp only [opd] at hc
              cases hl : look r.s tt with
              | none => rw [hl] at hc; cases hc
              | some p =>
                obtain ⟨tg, yv⟩ := p
                obtain ⟨u', hu', _⟩ := c.rel.sl tt tg yv hl
                simp only [Act.eval] at hg
                rw [hu']
                simp [hu'] at hg
                rw [hg]
            simp only [Option.bind_some, hev]
            rw [hs, hsw]
          · cases hp2
      rcases htr with h | h
      · exact val_eq h.2
      · exact absurd hy h.1
  | const v' =>
    simp only [opd] at hx
    cases ho : v'.oneCell' with
    | false => rw [ho] at hx; cases hx
    | true =>
      rw [ho] at hx
      simp only [cond_true, Option.some.injEq, Prod.mk.injEq, AV.v.injEq, V1.c.injEq, C.val.injEq] at hx
      exact hx.2
  | global g => cases hx
  | func f => simp [opd] at hx
theorem snd_pick (c : Ctx P R w0 N ops μ r a w ch) {cnd x y : Operand} (ho : o.op = .pick cnd x y) {z : OR} (hz : evPick ops r ch cnd x y = some z) : Snd P R w0 r o z μ a w := by
  unfold evPick at hz
  split at hz
  · rename_i g tx vx ty vy hc hx hy
    cases hb : (pickable ops ch cnd true tx && pickable ops ch cnd false ty) with
    | false => rw [hb] at hz; cases hz
    | true =>
      rw [hb] at hz
      simp only [cond_true] at hz
      simp only [Bool.and_eq_true] at hb
      have hg := val_eq (rho_r c hc)
      have s1 := fun h => pick_side c hg hc hx hb.1 (h : g = true)
      have s2 := fun h => pick_side c hg hc hy hb.2 (h : g = false)
      have hrun : (execOp a.eval o).run P w = .ok (.value (bif g then vx else vy)) w := by
        cases g with
        | true => simp [execOp, ho, hg, asBool, s1 rfl]
        | false => simp [execOp, ho, hg, asBool, s2 rfl]
      have hone : ∀ v, v = (bif g then vx else vy) → v.oneCell' = true → Snd P R w0 r o (rC (.val v)) μ a w := by
        intro v hv h1
        refine Snd.pure c.rel.mem ?_ ⟨rfl, rfl, rfl⟩ (CR.val v h1)
        rw [hrun, hv]
      have hconst : ∀ {b : Bool} {tt : Tag} {vv : Value}, opd r (.const (.bool b)) = some (tt, .v (.c (.val vv))) → vv = .bool b := by
        intro b tt vv h
        simp [opd, Value.oneCell'] at h
        exact h.2.symm
      split at hz
      · have hz' := Option.some.inj hz
        subst hz'
        refine hone _ ?_ rfl
        rw [hconst hy]
        cases g <;> rfl
      · have hz' := Option.some.inj hz
        subst hz'
        refine hone _ ?_ rfl
        rw [hconst hx]
        cases g <;> rfl
      · have hz' := Option.some.inj hz
        subst hz'
        refine hone _ ?_ rfl
        cases g <;> rfl
      · rename_i k' a' k2 b'
        cases hk : decide (k' = k2) with
        | false => rw [hk] at hz; cases hz
        | true =>
          rw [hk] at hz
          have hz' := Option.some.inj hz
          subst hz'
          have := of_decide_eq_true hk
          subst this
          refine hone _ ?_ rfl
          cases g <;> rfl
      · cases hz
  · cases hz
theorem snd_makeFunc (c : Ctx P R w0 N ops μ r a w ch) {f : FuncId} {fst caps : Array Operand} (ho : o.op = .makeFunc (.func f) fst caps) (hf : fst.toList = []) {vs : List AV} (h : rhos r ch caps.toList = some vs) {l : List V1} (hl : v1s vs = some l) :
    Snd P R w0 r o (rPure (.fn f l)) μ a w := by
  obtain ⟨h1, h2⟩ := rhos_r c h
  have hfe : fst = #[] := by apply Array.ext'; simpa using hf
  subst hfe
  refine Snd.pure c.rel.mem (u := .func (.func f) #[] (caps.map a.eval)) (by simp [execOp, ho, Instr.makeFunc]) ⟨rfl, rfl, rfl⟩ ⟨caps.map a.eval, rfl, ?_⟩
  have key : ∀ (ps : List Operand) (vs : List AV) (l : List V1), vs.length = ps.length → (∀ (i : Nat) (x : Operand) (v : AV), ps[i]? = some x → vs[i]? = some v → AVR w μ (Good R μ) v (a.eval x)) → v1s vs = some l → V1sR w μ (Good R μ) l (ps.map a.eval) := by
    intro ps
    induction ps with
    | nil => intro vs l hl _ h; obtain rfl : vs = [] := List.eq_nil_of_length_eq_zero (by simpa using hl); simp only [v1s, Option.some.injEq] at h; subst h; trivial
    | cons p ps ih =>
      intro vs l hl hr h
      obtain _ | ⟨v, vs⟩ := vs
      · simp at hl
      · cases v with
        | v x =>
          simp only [v1s] at h
          split at h
          · rename_i xs hx
            have := Option.some.inj h
            subst this
            exact ⟨hr 0 p _ rfl rfl, ih vs xs (by simpa using hl) (fun i y u hy hu => hr (i + 1) y u (by simpa using hy) (by simpa using hu)) hx⟩
          · cases h
        | _ => simp only [v1s] at h; cases h
  simpa using key caps.toList vs l h1 h2 hl
end
end Go.Proofs.Ytoknhjmcoleejaa
