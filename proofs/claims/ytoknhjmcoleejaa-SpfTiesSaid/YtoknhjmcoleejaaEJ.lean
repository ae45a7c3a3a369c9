/- The operations that make or write memory, continued: literals, variables, make, stores. No condition. -/
import Derived.Test.YtoknhjmcoleejaaEI
import Derived.Laws.Tables
import Derived.Great.BuildSlice
import Derived.Carry
set_option linter.unusedVariables false
set_option linter.unusedSimpArgs false
namespace Go.Proofs.Ytoknhjmcoleejaa
open Go.RowKit
section
variable {R : RT} {P : Program} {w0 w w' : World} {N : Nat} {ops : Array Oper} {μ μ' : Nat → Gh} {r : RS} {a : Act} {ch : List (Nat × Bool)} {o : Oper}

theorem fields_known {t : TypeId} {fs : List (Nat × TypeId)} {n : Nat} {z : List C} (hs : look TT t = some ⟨.agg fs, n, z⟩) {off : Nat} {u : TypeId} (hf : (off, u) ∈ fs) : ∃ x, look TT u = some x := by
  have key : (TT.all fun p => match p.2.sh with | .agg fs => fs.all (fun q => match look TT q.2 with | some _ => true | none => false) | _ => true) = true := by decide
  have := List.all_eq_true.1 key
  have hmem : ∃ p, p ∈ TT ∧ p.2 = ⟨.agg fs, n, z⟩ := by
    clear key this hf
    revert hs
    generalize TT = l
    induction l with
    | nil => intro h; cases h
    | cons p l ih =>
      intro h
      simp only [look] at h
      cases hb : Nat.beq p.1 t with
      | true => rw [hb] at h; simp only [cond_true, Option.some.injEq] at h; exact ⟨p, by simp, h⟩
      | false => rw [hb] at h; obtain ⟨q, hq, e⟩ := ih h; exact ⟨q, by simp [hq], e⟩
  obtain ⟨p, hp, e⟩ := hmem
  have h3 := this p hp
  rw [e] at h3
  simp only at h3
  have h4 := List.all_eq_true.1 h3 (off, u) hf
  simp only at h4
  cases hl : look TT u with
  | some x => exact ⟨x, rfl⟩
  | none => rw [hl] at h4; cases h4
theorem snd_build (c : Ctx P R w0 N ops μ r a w ch) {t : TypeId} {ps : Array (Nat × Operand)} (ho : o.op = .build t ps) {z : OR} (hz : evBuild r ch t ps.toList = some z) : Snd P R w0 r o z μ a w := by
  unfold evBuild at hz
  split at hz
  · rename_i fs n z0 vs hT hp
    split at hz
    · rename_i cs hcs
      have hz' := Option.some.inj hz
      subst hz'
      have hty := c.tok.ty t _ hT
      obtain ⟨F, hF, hFm⟩ := hty.und
      obtain ⟨i, zv, hi, hs, hzv, hz1, hz2, hz3⟩ := hty.info
      obtain ⟨us, h1, h2, h3⟩ := partVs_r c hp
      -- the places
      have hpl : F.toList.mapM (fun f => (P.info? f.type).map fun i => (f.offset, i.size)) = some (fs.map fun q => (q.1, match look TT q.2 with | some x => x.size | none => 0)) := by
        rw [← hFm]
        have hall : ∀ f ∈ F.toList, (P.info? f.type).map (fun i => (f.offset, i.size)) = some (f.offset, match look TT f.type with | some x => x.size | none => 0) := by
          intro f hf
          obtain ⟨x, hx⟩ := fields_known hT (off := f.offset) (u := f.type) (by rw [← hFm]; exact List.mem_map_of_mem hf)
          obtain ⟨i', z', hi', hs', _⟩ := (c.tok.ty _ _ hx).info
          simp [hi', hx, hs']
        clear hFm hF
        generalize F.toList = l at hall
        induction l with
        | nil => rfl
        | cons f l ih =>
          simp only [List.mapM_cons, List.map_cons]
          rw [hall f (by simp), ih (fun g hg => hall g (by simp [hg]))]
          rfl
      have hfill := fill_r (w := w) (μ := μ) (fs := fs) (place := ((fs.map fun q => (q.1, match look TT q.2 with | some x => x.size | none => 0)).toArray[·]?)) (fun j off t' n' hj hn => by
        simp only [List.getElem?_toArray, List.getElem?_map, hj, Option.map_some]
        unfold tySize at hn
        cases hl : look TT t' with
        | none => rw [hl] at hn; cases hn
        | some x => rw [hl] at hn; simp only [Option.some.injEq] at hn; simp [hn]) h2 h3 hcs (zero_csr hz1 hz2)
      obtain ⟨rs, hf, hr⟩ := hfill
      refine Snd.pure c.rel.mem (u := .agg rs) ?_ ⟨rfl, rfl, rfl⟩ ⟨rs, rfl, hr⟩
      have hparts : (ps.map fun (i, x) => (i, a.eval x)).toList = (vs.zip us).map (fun p => (p.1.1, p.2)) := by simpa using h1
      have hruns := run_places (P := P) w F.toList _ hpl
      have hbuild : (Instr.build t (ps.map fun (i, x) => (i, a.eval x))).run P w = .ok (.agg rs) w := by
        simp only [List.getElem?_toArray] at hf
        simp [Instr.build, run_underlying hF, typeInfo, zeroValue, hi, hzv, Array.mapM_eq_mapM_toList, hruns, hparts]
        have hp' : List.map (fun x => (x.fst, a.eval x.snd)) ps.toList = (vs.zip us).map (fun p => (p.1.1, p.2)) := by simpa using h1
        simp only [List.getElem?_map] at hf
        rw [hp', hf]
        rfl
      simp [execOp, ho, hbuild]
    · cases hz
  · cases hz

/-! ### new blocks -/
/-- What a new block leaves. -/
theorem post_new (c : Ctx P R w0 N ops μ r a w ch) {d : Nat} (hd : look r.b d = none) (hdst : o.dst = some d) {x : OR} {blk : Blk} (hx : x.nb = some blk ∧ x.wb = [] ∧ x.kl = []) {g : Gh} (hb : Below w.heap.size w w')
    (hg : ∀ B, g.own B → w.heap.size ≤ B) {u : Value} (hval : AVR w' (fun n => if n = d then g else μ n) (Good R fun n => if n = d then g else μ n) x.v u)
    (hblk : BR R w0.heap.size w' (fun n => if n = d then g else μ n) d blk) : OpPost R w0 r o.dst x μ w u (fun n => if n = d then g else μ n) w' := by
  have hdead := c.rel.mem.dead d hd
  have hst := step_new (w := w) (w' := w') hdead g hb hg
  refine ⟨fun _ _ => hval, ?_, fun y z hy => ?_⟩
  · unfold after
    rw [hdst, hx.1, hx.2.1, hx.2.2]
    refine hst.mem1 c.rel.mem (blk := blk) (by simp [putBs, killL, look_put]) hblk (fun n hn => by simp [putBs, killL, look_put, hn]) (.inr hd)
  · rw [hx.2.2]
    exact hst.avr hy (fun n hr hn => absurd hr (by subst hn; exact hy.dead_ref hdead))
theorem below_new (w : World) (ob : Obj) : Below w.heap.size w (w.alloc ob) := (Below.refl _ _).alloc (Nat.le_refl _) _
theorem CsR.fresh (hm : Mem R w0 μ r.b w) {d : Nat} (hd : look r.b d = none) (ob : Obj) {g : Gh} (hg : ∀ B, g.own B → w.heap.size ≤ B) {cs : List C} {vs : List Value} (h : CsR w μ (Good R μ) cs vs) :
    CsR (w.alloc ob) (fun n => if n = d then g else μ n) (Good R fun n => if n = d then g else μ n) cs vs := by
  have hdead := hm.dead d hd
  have hst := step_new (w := w) (w' := w.alloc ob) hdead g (below_new w ob) hg
  exact hst.csr h (fun n hr hn => absurd hr (by subst hn; exact h.dead_ref hdead))
theorem snd_newbox (c : Ctx P R w0 N ops μ r a w ch) {d : Nat} (hd : look r.b d = none) (hdst : o.dst = some d) {cs : List C} {vs : Array Value} {t : TypeId} (hcs : CsR w μ (Good R μ) cs vs.toList)
    (hrun : (execOp a.eval o).run P w = .ok (.value (.pointer (some ⟨w.heap.size, 0, none⟩))) (w.alloc (.cells vs t))) : Snd P R w0 r o ⟨[], .v (.c (.ptr d 0)), some (.box cs t), [], [], []⟩ μ a w := by
  intro K Q hK
  have hg : ∀ B, (Gh.box w.heap.size).own B → w.heap.size ≤ B := fun B hB => by have hB : B = w.heap.size := hB; omega
  refine wp_value hrun (hK _ (fun n => if n = d then Gh.box w.heap.size else μ n) _ (post_new c hd hdst ⟨rfl, rfl, rfl⟩ (below_new w _) hg (CR.ptr (by simp)) ?_))
  exact ⟨w.heap.size, vs, by simp, c.rel.mem.below.size, heap_alloc_new w _, CsR.fresh c.rel.mem hd _ hg hcs⟩
theorem snd_alloc (c : Ctx P R w0 N ops μ r a w ch) {t : TypeId} (ho : o.op = .alloc t) {d : Nat} (hd : look r.b d = none) (hdst : o.dst = some d) {ty : Ty} (hT : look TT t = some ty) :
    Snd P R w0 r o ⟨[], .v (.c (.ptr d 0)), some (.box ty.zero t), [], [], []⟩ μ a w := by
  obtain ⟨z, h1, h2, h3, h4⟩ := zero_run (w := w) (c.tok.ty t ty hT)
  refine snd_newbox c hd hdst (vs := z.cells) (zero_csr h2 h3) ?_
  simp [execOp, ho, Instr.alloc, h1, newVar, newRow]
theorem snd_box (c : Ctx P R w0 N ops μ r a w ch) {t : TypeId} {x : Operand} (ho : o.op = .box t x) {d : Nat} (hd : look r.b d = none) (hdst : o.dst = some d) {v : V1} (h : rho r ch x = some (.v v)) :
    Snd P R w0 r o ⟨[], .v (.c (.ptr d 0)), some (.box v.cs t), [], [], []⟩ μ a w := by
  have hv : V1R w μ (Good R μ) v (a.eval x) := rho_r c h
  refine snd_newbox c hd hdst (vs := (a.eval x).cells) hv.cs ?_
  simp [execOp, ho, Instr.box, newVar, newRow]
theorem snd_newblk (c : Ctx P R w0 N ops μ r a w ch) {d : Nat} (hd : look r.b d = none) (hdst : o.dst = some d) {k : K} {n : Nat} {cs : List C} {blk : Blk} {vs : Array Value} (hcs : CsR w μ (Good R μ) cs vs.toList) (hlen : n ≤ maxLen) (hsz : cs.length = n * width k)
    (hrun : (execOp a.eval o).run P w = .ok (.value (.slice (some ⟨w.heap.size, 0, none⟩) n n)) (w.alloc (.cells vs (elemT k)))) {conds : List Bool} {rb : List Nat}
    (hblk : ∀ (w' : World) (μ' : Nat → Gh) v vals, μ' d = .row v → w'.ownsRow w0.heap.size (elemT k) (width k) v n vals → CsR w' μ' (Good R μ') cs vals → BR R w0.heap.size w' μ' d blk) : Snd P R w0 r o ⟨conds, .v (.c (.own d)), some blk, [], [], rb⟩ μ a w := by
  intro K Q hK
  have hg : ∀ B, (Gh.row (.slice (some ⟨w.heap.size, 0, none⟩) n n)).own B → w.heap.size ≤ B := fun B hB => by
    have : w.heap.size = B := by simpa [Gh.own, Value.ownBlock] using hB
    omega
  refine wp_value hrun (hK _ (fun m => if m = d then Gh.row (.slice (some ⟨w.heap.size, 0, none⟩) n n) else μ m) _ (post_new c hd hdst ⟨rfl, rfl, rfl⟩ (below_new w _) hg (CR.own (by simp [Gh.main]) ⟨_, _, _, rfl⟩) ?_))
  exact hblk _ _ _ _ (by simp) (World.ownsRow_lit w vs n c.rel.mem.below.size hlen (by have := hcs.length; rw [hsz] at this; simpa using this.symm)) (CsR.fresh c.rel.mem hd _ hg hcs)
theorem snd_newrow (c : Ctx P R w0 N ops μ r a w ch) {d : Nat} (hd : look r.b d = none) (hdst : o.dst = some d) {k : K} {xs : List (ty k)} {vs : Array Value} (hcs : CsR w μ (Good R μ) (flatC k xs) vs.toList) (hlen : xs.length ≤ maxLen)
    (hrun : (execOp a.eval o).run P w = .ok (.value (.slice (some ⟨w.heap.size, 0, none⟩) xs.length xs.length)) (w.alloc (.cells vs (elemT k)))) {conds : List Bool} {rb : List Nat} : Snd P R w0 r o ⟨conds, .v (.c (.own d)), some (.arr k xs), [], [], rb⟩ μ a w :=
  snd_newblk c hd hdst hcs hlen (flatC_length k xs) hrun (fun w' μ' v vals h1 h2 h3 => ⟨v, vals, h1, h2, h3⟩)

theorem snd_makeMap (c : Ctx P R w0 N ops μ r a w ch) {t : TypeId} (ho : o.op = .makeMap t none) {d : Nat} (hd : look r.b d = none) (hdst : o.dst = some d) {blk : Blk} (hblk : blk = .mpb [] ∨ blk = .mpi []) :
    Snd P R w0 r o ⟨[], .v (.c (.mp d)), some blk, [], [], []⟩ μ a w := by
  intro K Q hK
  have hg : ∀ B, (Gh.box w.heap.size).own B → w.heap.size ≤ B := fun B hB => by have hB : B = w.heap.size := hB; omega
  have hrun : (execOp a.eval o).run P w = .ok (.value (.map (some w.heap.size))) (w.alloc (.map #[] 0)) := by
    simp [execOp, ho, run_makeMap]
  refine wp_value hrun (hK _ (fun n => if n = d then Gh.box w.heap.size else μ n) _ (post_new c hd hdst ⟨rfl, rfl, rfl⟩ (below_new w _) hg (CR.mp (by simp)) ?_))
  rcases hblk with rfl | rfl
  · exact ⟨w.heap.size, #[], 0, by simp, c.rel.mem.below.size, heap_alloc_new w _, rfl⟩
  · exact ⟨w.heap.size, #[], 0, by simp, c.rel.mem.below.size, heap_alloc_new w _, rfl⟩

theorem litElems_r (k : K) : ∀ {n : Nat} {vs : List (Nat × V1)} {xs : List (ty k)} {us : List Value}, litElems k n vs = some xs → us.length = vs.length → (∀ (i : Nat) (v : Nat × V1) (u : Value), vs[i]? = some v → us[i]? = some u → V1R w μ (Good R μ) v.2 u) →
    xs.length = vs.length ∧ (∀ (i : Nat) (v : Nat × V1), vs[i]? = some v → v.1 = n + i) ∧ (∀ u ∈ us, u.cells.size = width k) ∧ CsR w μ (Good R μ) (flatC k xs) (us.flatMap fun u => u.cells.toList)
  | n, [], xs, us, h, hl, hr => by
    simp only [litElems, Option.some.injEq] at h
    subst h
    obtain rfl : us = [] := List.eq_nil_of_length_eq_zero (by simpa using hl)
    exact ⟨rfl, by simp, by simp, by simp [flatC, CsR]⟩
  | n, (i, x) :: vs, xs, us, h, hl, hr => by
    simp only [litElems] at h
    cases hb : (Nat.beq i n && Nat.beq x.cs.length (width k)) with
    | false => rw [hb] at h; cases h
    | true =>
      rw [hb] at h
      simp only [cond_true] at h
      simp only [Bool.and_eq_true] at hb
      have hb1 := Nat.eq_of_beq_eq_true hb.1
      have hb2 := Nat.eq_of_beq_eq_true hb.2
      split at h
      · rename_i y ys h1 h2
        have := Option.some.inj h
        subst this
        obtain _ | ⟨u, us⟩ := us
        · simp at hl
        · obtain ⟨q1, q2, q3, q4⟩ := litElems_r k h2 (us := us) (by simpa using hl) (fun j v u hv hu => hr (j + 1) v u (by simpa using hv) (by simpa using hu))
          have hx := (hr 0 _ u rfl rfl).cs
          refine ⟨by simp [q1], fun j v hv => ?_, fun u' hu' => ?_, ?_⟩
          · cases j with
            | zero => simp at hv; subst hv; simpa using hb1
            | succ j => have := q2 j v (by simpa using hv); omega
          · rcases List.mem_cons.1 hu' with rfl | hu'
            · have := hx.length; simp at this; omega
            · exact q3 u' hu'
          · rw [flatC_cons, List.flatMap_cons]
            exact (ofCells_csr h1 hx).append q4
      · cases h
/-- The model's 'fill' of a literal, all elements given in order. -/
theorem fill_lit (k : K) : ∀ (us : List Value) (n : Nat) (zs : Array Value), (∀ u ∈ us, u.cells.size = width k) → (n + us.length) * width k ≤ zs.size →
    ∃ rs, Instr.fill (fun i => some (i * width k, width k)) zs ((us.zipIdx n).map fun p => (p.2, p.1)) = some rs ∧ rs.toList = setLL zs.toList (n * width k) (us.flatMap fun u => u.cells.toList)
  | [], n, zs, _, _ => ⟨zs, rfl, rfl⟩
  | u :: us, n, zs, h, hl => by
    have hu := h u (by simp)
    have hset := foldl_set u.cells.toList 0 (n * width k) zs
    have hsz : (u.cells.toList.zipIdx.foldl (fun cs (p : Value × Nat) => cs.setIfInBounds (n * width k + p.2) p.1) zs).size = zs.size := by
      have := congrArg List.length hset
      rw [setLL_length] at this
      simpa using this
    obtain ⟨rs, h1, h2⟩ := fill_lit k us (n + 1) (u.cells.toList.zipIdx.foldl (fun cs (p : Value × Nat) => cs.setIfInBounds (n * width k + p.2) p.1) zs) (fun v hv => h v (by simp [hv])) (by rw [hsz]; simp at hl; rw [show n + 1 + us.length = n + (us.length + 1) by omega]; exact hl)
    refine ⟨rs, ?_, ?_⟩
    · simp only [List.zipIdx_cons, List.map_cons, Instr.fill]
      have hle : n * width k + width k ≤ zs.size := by
        have : (n + 1) * width k ≤ (n + (u :: us).length) * width k := Nat.mul_le_mul_right _ (by simp)
        rw [Nat.add_mul, Nat.one_mul] at this
        omega
      have : ¬ (u.cells.size ≠ width k ∨ n * width k + u.cells.size > zs.size) := by omega
      simp only [Bool.or_eq_true, decide_eq_true_eq]
      rw [if_neg (by simpa using this)]
      have hz : u.cells.zipIdx.foldl (fun cs (p : Value × Nat) => cs.setIfInBounds (n * width k + p.2) p.1) zs = u.cells.toList.zipIdx.foldl (fun cs (p : Value × Nat) => cs.setIfInBounds (n * width k + p.2) p.1) zs := by
        rw [← Array.foldl_toList]
        simp
      rw [hz]
      exact h1
    · rw [h2, hset, List.flatMap_cons]
      have key : ∀ (as bs xs : List Value) (o : Nat), setLL xs o (as ++ bs) = setLL (setLL xs o as) (o + as.length) bs := by
        intro as
        induction as with
        | nil => intro bs xs o; rfl
        | cons a as ih => intro bs xs o; simp only [List.cons_append, setLL, ih, List.length_cons]; congr 1; omega
      rw [key]
      simp [hu, Nat.add_mul]
theorem litCss_r (k : K) : ∀ {n : Nat} {vs : List (Nat × V1)} {css : List (List C)} {us : List Value}, litCss k n vs = some css → us.length = vs.length → (∀ (i : Nat) (v : Nat × V1) (u : Value), vs[i]? = some v → us[i]? = some u → V1R w μ (Good R μ) v.2 u) →
    css.length = vs.length ∧ (∀ (i : Nat) (v : Nat × V1), vs[i]? = some v → v.1 = n + i) ∧ (∀ u ∈ us, u.cells.size = width k) ∧ CsR w μ (Good R μ) (css.flatMap id) (us.flatMap fun u => u.cells.toList) ∧ ∀ cs, cs ∈ css → cs.length = width k
  | n, [], css, us, h, hl, hr => by
    simp only [litCss, Option.some.injEq] at h
    subst h
    obtain rfl : us = [] := List.eq_nil_of_length_eq_zero (by simpa using hl)
    exact ⟨rfl, by simp, by simp, trivial, by simp⟩
  | n, (i, x) :: vs, css, us, h, hl, hr => by
    simp only [litCss] at h
    cases hb : (Nat.beq i n && Nat.beq x.cs.length (width k)) with
    | false => rw [hb] at h; cases h
    | true =>
      rw [hb] at h
      simp only [cond_true] at h
      simp only [Bool.and_eq_true] at hb
      have hb1 := Nat.eq_of_beq_eq_true hb.1
      have hb2 := Nat.eq_of_beq_eq_true hb.2
      split at h
      · rename_i m h2
        have := Option.some.inj h
        subst this
        obtain _ | ⟨u, us⟩ := us
        · simp at hl
        · obtain ⟨q1, q2, q3, q4, q5⟩ := litCss_r k h2 (us := us) (by simpa using hl) (fun j v u hv hu => hr (j + 1) v u (by simpa using hv) (by simpa using hu))
          have hx := (hr 0 _ u rfl rfl).cs
          refine ⟨by simp [q1], fun j v hv => ?_, fun u' hu' => ?_, ?_, fun cs hcs => ?_⟩
          · cases j with
            | zero => simp at hv; subst hv; simpa using hb1
            | succ j => have := q2 j v (by simpa using hv); omega
          · rcases List.mem_cons.1 hu' with rfl | hu'
            · have := hx.length; simp at this; omega
            · exact q3 u' hu'
          · rw [List.flatMap_cons, List.flatMap_cons]
            exact hx.append q4
          · rcases List.mem_cons.1 hcs with rfl | hcs
            · exact hb2
            · exact q5 cs hcs
      · cases h
theorem buildSlice_run (tok : TOK P) {t : TypeId} {k : K} (hk : sliceK t = some k) {n : Nat} (hn : n ≤ 64) {vs : List (Nat × V1)} {us : List Value} {ps : List (Nat × Value)} (hps : ps = (vs.zip us).map (fun p => (p.1.1, p.2))) (h2 : us.length = vs.length) (hvn : vs.length = n)
    (q2 : ∀ (i : Nat) (v : Nat × V1), vs[i]? = some v → v.1 = 0 + i) (q3 : ∀ u ∈ us, u.cells.size = width k) {flat : List C} (q4 : CsR w μ (Good R μ) flat (us.flatMap fun u => u.cells.toList)) (hfl : flat.length = n * width k) :
    ∃ rs : Array Value, (Instr.buildSlice t n ps.toArray).run P w = .ok (.slice (some ⟨w.heap.size, 0, none⟩) n n) (w.alloc (.cells rs (elemT k))) ∧ CsR w μ (Good R μ) flat rs.toList := by
  have hu := sliceK_und tok hk
  obtain ⟨i, zv, hi, hs, hby, hzv, hzs, hzr⟩ := (tok.el k).info
  have hparts : ps = (us.zipIdx 0).map fun p => (p.2, p.1) := by
    rw [hps]
    apply List.ext_getElem
    · simp [h2]
    · intro j hj1 hj2
      simp at hj1 hj2
      have := q2 j vs[j] (List.getElem?_eq_getElem (by omega))
      simp [this]
  have hw := width_pos k
  have huslen : us.length = n := by omega
  -- the zeros
  have hkw : width k ≤ 12 := by cases k <;> decide
  have hsmall : ¬ n * i.size > 2 ^ 24 := by
    rw [hs]
    have : n * width k ≤ 64 * 12 := Nat.mul_le_mul hn hkw
    omega
  obtain ⟨rs, hf1, hf2⟩ := fill_lit k us 0 ((Array.range (n * i.size)).map (zv.cells[· % zv.cells.size]!)) q3 (by simp [hs, huslen])
  have hrs : rs.toList = us.flatMap fun u => u.cells.toList := by
    have hl : (us.flatMap fun u => u.cells.toList).length = n * width k := by
      have := q4.length
      rw [hfl] at this
      exact this.symm
    rw [hf2, setLL_eq _ _ _ (by simp [hl, hs])]
    simp [hl, hs]
  have hcs : CsR w μ (Good R μ) flat rs.toList := by rw [hrs]; exact q4
  rw [← hs] at hf1
  refine ⟨rs, ?_, hcs⟩
  by_cases hn0 : n = 0
  · subst hn0
    have hus : us = [] := List.eq_nil_of_length_eq_zero huslen
    subst hus
    simp only [List.zipIdx_nil, List.map_nil] at hparts
    have hrse : rs = #[] := by apply Array.ext'; rw [hrs]; rfl
    subst hparts
    rw [hrse]
    simp [Instr.buildSlice, run_underlying hu, sizeOf, typeInfo, hi, newRow, Instr.fill]
    congr 2
    apply Array.ext'
    simp [Array.toList_map, Array.toList_range]
  · exact run_buildSlice w t (elemT k) n _ rs i zv hu hi hzv hsmall (by rw [hs]; intro e; rcases Nat.mul_eq_zero.1 e with h | h <;> omega) (by simp only [List.toList_toArray]; rw [hparts]; exact hf1)
theorem snd_buildSlice (c : Ctx P R w0 N ops μ r a w ch) {t : TypeId} {n : Nat} {ps : Array (Nat × Operand)} (ho : o.op = .buildSlice t n ps) {d : Nat} (hd : look r.b d = none) (hdst : o.dst = some d) {z : OR}
    (hz : evBuildSlice r ch (some d) t n ps.toList = some z) : Snd P R w0 r o z μ a w := by
  unfold evBuildSlice at hz
  split at hz
  · rename_i k vs d' hk hp hd'
    cases hd'
    cases hb : (Nat.beq vs.length n && Nat.ble n 64) with
    | false => rw [hb] at hz; cases hz
    | true =>
      rw [hb] at hz
      simp only [cond_true] at hz
      simp only [Bool.and_eq_true] at hb
      have hb1 := Nat.eq_of_beq_eq_true hb.1
      have hb2 := Nat.le_of_ble_eq_true hb.2
      obtain ⟨us, h1, h2, h3⟩ := partVs_r c hp
      have hpe : (ps.map fun (i, x) => (i, a.eval x)) = ((vs.zip us).map (fun p => (p.1.1, p.2))).toArray := by
        apply Array.ext'
        simpa using h1
      cases hdk : deepK k with
      | true =>
        rw [hdk, cond_true] at hz
        split at hz
        · rename_i css hx
          have hz' := Option.some.inj hz
          subst hz'
          obtain ⟨q1, q2, q3, q4, q5⟩ := litCss_r k hx h2 h3
          have hfl : (css.flatMap id).length = n * width k := by
            rw [← hb1, ← q1]
            clear q4 q1 hx hz
            induction css with
            | nil => simp
            | cons cs l ih =>
              rw [List.flatMap_cons, List.length_append, ih (fun cs h => q5 cs (by simp [h])), List.length_cons, Nat.add_mul, Nat.one_mul, show (id cs).length = width k from q5 cs (by simp)]
              omega
          obtain ⟨rs, hrun, hcs⟩ := buildSlice_run (w := w) c.tok hk hb2 rfl h2 hb1 q2 q3 q4 hfl
          refine snd_newblk c hd hdst (k := k) (n := n) hcs (by simp only [maxLen]; omega) hfl (by simp [execOp, ho, hpe, hrun]) (fun w' μ' v vals e1 e2 e3 => ⟨v, vals, e1, by rw [q1, hb1]; exact e2, e3, q5⟩)
        · cases hz
      | false =>
        rw [hdk, cond_false] at hz
        split at hz
        · rename_i xs hx
          have hz' := Option.some.inj hz
          subst hz'
          obtain ⟨q1, q2, q3, q4⟩ := litElems_r k hx h2 h3
          have hlen : xs.length = n := by omega
          obtain ⟨rs, hrun, hcs⟩ := buildSlice_run (w := w) c.tok hk hb2 rfl h2 hb1 q2 q3 q4 (by rw [flatC_length, hlen])
          refine snd_newrow c hd hdst hcs (by rw [hlen]; simp only [maxLen]; omega) ?_
          rw [hlen]
          simp [execOp, ho, hpe, hrun]
        · cases hz
  · cases hz
end
end Go.Proofs.Ytoknhjmcoleejaa
