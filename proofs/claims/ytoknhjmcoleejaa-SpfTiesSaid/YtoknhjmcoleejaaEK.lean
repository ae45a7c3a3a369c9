/- Make, stores, append, the choice between two values, function values. No condition. -/
import Derived.Test.YtoknhjmcoleejaaEJ
set_option linter.unusedVariables false
set_option linter.unusedSimpArgs false
namespace Go.Proofs.Ytoknhjmcoleejaa
open Go.RowKit
section
variable {R : RT} {P : Program} {w0 w w' : World} {N : Nat} {ops : Array Oper} {μ μ' : Nat → Gh} {r : RS} {a : Act} {ch : List (Nat × Bool)} {o : Oper}

theorem flatC_get (k : K) (xs : List (ty k)) (i j : Nat) (x : ty k) (hx : xs[i]? = some x) (hj : j < width k) : (flatC k xs)[i * width k + j]? = (cells k x)[j]? := by
  have hlt := (List.getElem?_eq_some_iff.1 hx).1
  rw [← List.getElem?_drop, flatC_drop k xs i hlt, List.getElem?_append_left (by rw [cells_length]; exact hj)]
  simp [List.getD_eq_getElem?_getD, hx]
theorem roomy_iff {n m k : Nat} : roomy n m k = true ↔ (n + m) * k ≤ 140737488355328 := by
  unfold roomy
  exact ⟨Nat.le_of_ble_eq_true, Nat.ble_eq_true_of_le⟩
theorem bytes_pos (k : K) : 0 < bytesT k := by cases k <;> decide
theorem snd_makeSlice (c : Ctx P R w0 N ops μ r a w ch) {t : TypeId} {x y : Operand} (ho : o.op = .makeSlice t x y) {d : Nat} (hd : look r.b d = none) (hdst : o.dst = some d) {n m : Int} (h : rho r ch x = some (.v (.c (.val (.int .i64 n)))))
    (h' : rho r ch y = some (.v (.c (.val (.int .i64 m))))) {k : K} (hk : sliceK t = some k) (hnm : (n == m) = true) (hn0 : 0 ≤ n) (hr : roomy 0 n.toNat (bytesT k) = true) {conds : List Bool} :
    Snd P R w0 r o ⟨conds, .v (.c (.own d)), some (.arr k (List.replicate n.toNat (zero k))), [], [], []⟩ μ a w := by
  have e1 := val_eq (rho_r c h)
  have e2 := val_eq (rho_r c h')
  have e3 : n = m := by simpa using hnm
  subst e3
  obtain ⟨q, rfl⟩ := Int.eq_ofNat_of_zero_le hn0
  have hu := sliceK_und c.tok hk
  obtain ⟨i, zv, hi, hs, hby, hzv, hzs, hzr⟩ := (c.tok.el k).info
  have hroom := roomy_iff.1 hr
  have hb := bytes_pos k
  have hq : q ≤ 140737488355328 := by
    have : q * 1 ≤ q * bytesT k := Nat.mul_le_mul_left _ hb
    simp at hroom
    omega
  have hrun := run_make (P := P) w t (elemT k) i zv hu hi hzv .i64 .i64 (q : Int) (q : Int) (by omega) (by omega) (by
    rw [hby]
    have : (0 + q) * bytesT k ≤ 140737488355328 := by simpa using hroom
    have h2 : bytesT k * q ≤ 140737488355328 := by rw [Nat.mul_comm]; simpa using this
    have h3 : ((bytesT k * q : Nat) : Int) ≤ 140737488355328 := by omega
    rw [Int.natCast_mul] at h3
    omega) (by omega)
  simp only [Int.toNat_natCast] at hrun ⊢
  have hw := width_pos k
  refine snd_newrow c hd hdst (k := k) (xs := List.replicate q (zero k)) (vs := madeCells zv.cells (q * i.size)) ?_ (by simp [maxLen]; omega) (by simp [execOp, ho, e1, e2, hrun])
  refine CsR.of_get ?_ ?_
  · rw [flatC_length]
    simp [madeCells, hs]
  · intro p cc v hc hv
    have hlt : p < q * width k := by
      have := (List.getElem?_eq_some_iff.1 hc).1
      rw [flatC_length] at this
      simpa using this
    have hdm := Nat.div_add_mod p (width k)
    have hpi : p / width k < q := by
      rw [Nat.div_lt_iff_lt_mul hw]
      exact hlt
    have hpj := Nat.mod_lt p hw
    have hget := flatC_get k (List.replicate q (zero k)) (p / width k) (p % width k) (zero k) (by simp [hpi]) hpj
    rw [Nat.mul_comm, hdm] at hget
    rw [hget] at hc
    obtain ⟨v', hv', hcr⟩ := (hzr w μ (Good R μ)).get hc
    have : v = v' := by
      have hvv : (madeCells zv.cells (q * i.size)).toList[p]? = some zv.cells[p % width k]! := by
        simp [madeCells, hs, hlt, hzs]
      rw [hvv] at hv
      have h3 : zv.cells[p % width k]! = v' := by
        have h4 : zv.cells[p % width k]? = some v' := by simpa using hv'
        rw [Array.getElem!_eq_getD, Array.getD_eq_getD_getElem?, h4]
        rfl
      rw [h3] at hv
      exact (Option.some.inj hv).symm
    rw [this]
    exact hcr

/-! ### stores -/
theorem post_put (c : Ctx P R w0 N ops μ r a w ch) {b B : Nat} (hμ : (μ b).own B) (hdst : o.dst = none) {x : OR} {blk : Blk} (hx : x.nb = none ∧ x.wb = [(b, blk)] ∧ x.kl = []) (hg : w.grownBy w' (some B)) (hblk : BR R w0.heap.size w' μ b blk) (u : Value) :
    OpPost R w0 r o.dst x μ w u μ w' := by
  have hst : Step μ μ w w' (· = b) := Step.one hg (fun B' h => by cases h; exact hμ) (fun _ _ => rfl) (fun _ h => .inl h)
  refine ⟨fun n hn => absurd (hdst ▸ hn) (by simp), ?_, fun y z hy => ?_⟩
  · unfold after
    rw [hdst, hx.1, hx.2.1, hx.2.2]
    exact hst.mem1 c.rel.mem (blk := blk) (by simp [putBs, killL, look_put]) hblk (fun n hn => by simp [putBs, killL, look_put, hn]) (.inl rfl)
  · rw [hx.2.2]; exact hst.avr hy (fun _ _ _ => rfl)
theorem take_setLL {α : Type} (xs us : List α) (o m : Nat) (h : o + us.length ≤ m) (hm : m ≤ xs.length) : (setLL xs o us).take m = setLL (xs.take m) o us := by
  rw [setLL_eq us xs o (by omega), setLL_eq us (xs.take m) o (by simp; omega)]
  rw [List.take_append, List.take_append]
  simp only [List.length_take, List.take_take]
  have h1 : min m o = o := by omega
  have h2 : min o m = o := by omega
  have h3 : min o xs.length = o := by omega
  rw [h1, h2, h3, List.take_of_length_le (l := us) (by omega), List.drop_take]
  congr 3
  omega
theorem setLL_mid {α : Type} (xs us : List α) (p q l : Nat) (hq : q + us.length ≤ l) (hl : p + l ≤ xs.length) : setLL xs p (setLL ((xs.drop p).take l) q us) = setLL xs (p + q) us := by
  have hml : ((xs.drop p).take l).length = l := by simp; omega
  rw [setLL_eq _ xs p (by rw [setLL_length, hml]; exact hl), setLL_length, hml, setLL_eq us _ q (by rw [hml]; exact hq), setLL_eq us xs (p + q) (by omega)]
  rw [List.take_add, List.take_take, List.drop_take]
  have h1 : min q l = q := by omega
  rw [h1]
  simp only [List.append_assoc]
  congr 3
  have h2 : xs.drop (p + l) = ((xs.drop p).drop (q + us.length)).drop (l - (q + us.length)) := by
    rw [List.drop_drop, List.drop_drop]; congr 1; omega
  rw [h2, List.take_append_drop, List.drop_drop]
  congr 1
  omega
theorem flatC_set (k : K) : ∀ (xs : List (ty k)) (i : Nat) (y : ty k), i < xs.length → flatC k (xs.set i y) = splice (flatC k xs) (i * width k) (cells k y)
  | [], i, y, h => by simp at h
  | x :: l, 0, y, _ => by
    simp [List.set, flatC_cons, splice, cells_length]
  | x :: l, i + 1, y, h => by
    rw [List.set_cons_succ, flatC_cons, flatC_set k l i y (by simpa using h), flatC_cons]
    unfold splice
    have e1 : (i + 1) * width k = (cells k x).length + i * width k := by rw [cells_length, Nat.add_mul]; omega
    rw [e1, Nat.add_assoc, List.take_length_add_append, List.drop_length_add_append]
    simp
theorem snd_store (c : Ctx P R w0 N ops μ r a w ch) {x y : Operand} {t : TypeId} (ho : o.op = .store t x y) (hdst : o.dst = none) {p q : AV} (h : rho r ch x = some p) (h' : rho r ch y = some q) {z : OR} (hz : evStore r t p q = some z)
    (hcs : z.cs.all id = true) : Snd P R w0 r o z μ a w := by
  have hp := rho_r c h
  have hq := rho_r c h'
  have hTy : ∀ {x : V1}, fits t x = true → ∃ ty, look TT t = some ty := by
    intro x hf
    unfold fits at hf
    cases hl : look TT t with
    | some ty => exact ⟨ty, rfl⟩
    | none => rw [hl] at hf; simp at hf
  unfold evStore at hz
  split at hz
  · rename_i b off v
    split at hz
    · rename_i cs u hl
      cases hb : (fits t v && Nat.ble (off + v.cs.length) cs.length) with
      | false => rw [hb] at hz; cases hz
      | true =>
        rw [hb] at hz
        have hz' := Option.some.inj hz
        subst hz'
        simp only [Bool.and_eq_true] at hb
        have hle := Nat.le_of_ble_eq_true hb.2
        obtain ⟨ty, hT⟩ := hTy hb.1
        obtain ⟨B, vs, h1, h2, h3, h4⟩ := c.rel.mem.bl _ _ hl
        have hp' : CR w μ (Good R μ) (.ptr b off) (a.eval x) := hp
        have hq' : V1R w μ (Good R μ) v (a.eval y) := hq
        generalize hv : a.eval x = ux at hp'
        cases hp' with
        | ptr hbb =>
          rw [h1] at hbb
          injection hbb with hbb
          subst hbb
          have hlen : cs.length = vs.size := by simpa using h4.length
          obtain ⟨hrun, hul⟩ := store_run (c.tok.ty t ty hT) hT hq' hb.1 h3 (by omega : off + v.cs.length ≤ vs.size)
          intro K Q hK
          have hgr := setCells_grown B (a.eval y).cells.toList off w
          refine wp_skipped (w' := w.setCells B off (a.eval y).cells.toList) (by simp [execOp, ho, hv, hrun]) (hK _ μ _ (post_put c (B := B) (by rw [h1]; rfl) hdst ⟨rfl, rfl, rfl⟩ hgr ?_ _))
          have hst : Step μ μ w (w.setCells B off (a.eval y).cells.toList) (· = b) := Step.one hgr (fun B' h => by cases h; rw [h1]; rfl) (fun _ _ => rfl) (fun _ h => .inl h)
          obtain ⟨vs', h5, h6⟩ := setCells_heap B (a.eval y).cells.toList off w vs u (0, 0) h3
          refine ⟨B, vs', h1, h2, h5, ?_⟩
          rw [h6]
          exact splice_csr (hst.csr h4 fun _ _ _ => rfl) (hst.csr hq'.cs fun _ _ _ => rfl) (by simp only [Array.length_toList] at hul ⊢; omega)
    · cases hz
  · rename_i k b i off v
    split at hz
    · rename_i k' xs hl
      cases hb : (fits t v && Nat.beq k.no k'.no && Nat.ble (off + v.cs.length) (width k')) with
      | false => rw [hb] at hz; cases hz
      | true =>
        rw [hb] at hz
        simp only [cond_true] at hz
        simp only [Bool.and_eq_true] at hb
        obtain ⟨⟨hf, hkk⟩, hle⟩ := hb
        have hle := Nat.le_of_ble_eq_true hle
        have hke := no_inj hkk
        subst hke
        split at hz
        · rename_i yy hof
          have hz' := Option.some.inj hz
          subst hz'
          obtain ⟨ty, hT⟩ := hTy hf
          have hi := inb_iff.1 (show inb i xs.length = true by simpa using hcs)
          have hlt : i.toNat < xs.length := by omega
          obtain ⟨v0, vals, h1, h2, h3⟩ := c.rel.mem.bl _ _ hl
          have hp' : CR w μ (Good R μ) (.elt k b i off) (a.eval x) := hp
          have hq' : V1R w μ (Good R μ) v (a.eval y) := hq
          generalize hv : a.eval x = ux at hp'
          cases hp' with
          | @elt _ _ _ B n cc _ hbb =>
            rw [h1] at hbb
            injection hbb with hbb
            subst hbb
            have h2' := h2
            rcases h2.2 with ⟨hnil, _⟩ | ⟨g, cap, cur, heq, hge, hheap, hnc, hcm, hcsz, hct⟩
            · cases hnil
            · injection heq with e1 e2 e3
              injection e1 with e1
              injection e1 with e1
              subst e1
              have hvl : vals.length = xs.length * width k := h2.1
              have hw := width_pos k
              have hiw : i.toNat * width k + width k ≤ xs.length * width k := by
                have : (i.toNat + 1) * width k ≤ xs.length * width k := Nat.mul_le_mul_right _ (by omega)
                rwa [Nat.add_mul, Nat.one_mul] at this
              have hcap : xs.length * width k ≤ cur.size := by rw [hcsz]; exact Nat.mul_le_mul_right _ hnc
              obtain ⟨hrun, hul⟩ := store_run (c.tok.ty t ty hT) hT hq' hf hheap (by omega : i.toNat * width k + off + v.cs.length ≤ cur.size)
              intro K Q hK
              have hgr := setCells_grown B (a.eval y).cells.toList (i.toNat * width k + off) w
              refine wp_skipped (w' := w.setCells B (i.toNat * width k + off) (a.eval y).cells.toList) (by simp [execOp, ho, hv, hrun]) (hK _ μ _ (post_put c (B := B) (by rw [h1]; rfl) hdst ⟨rfl, rfl, rfl⟩ hgr ?_ _))
              have hst : Step μ μ w (w.setCells B (i.toNat * width k + off) (a.eval y).cells.toList) (· = b) := Step.one hgr (fun B' h => by cases h; rw [h1]; rfl) (fun _ _ => rfl) (fun _ h => .inl h)
              obtain ⟨cur', h5, h6⟩ := setCells_heap B (a.eval y).cells.toList (i.toNat * width k + off) w cur (elemT k) (0, 0) hheap
              have hcl : cur.toList.length = cur.size := by simp
              refine ⟨_, setLL vals (i.toNat * width k + off) (a.eval y).cells.toList, h1, ⟨by rw [setLL_length, hvl]; simp, .inr ⟨B, cap, cur', by simp [e2, e3], hge, h5, by simpa using hnc, hcm, ?_, ?_⟩⟩, ?_⟩
              · have := congrArg List.length h6
                rw [setLL_length] at this
                simp at this
                rw [this]; exact hcsz
              · rw [h6, List.length_set, take_setLL _ _ _ _ (by rw [hul]; omega) (by rw [hcl]; exact hcap), hct]
              · rw [flatC_set k xs i.toNat yy hlt]
                have hmid := flatC_drop k xs i.toNat hlt
                have hcs2 := h3.drop (i.toNat * width k)
                rw [hmid] at hcs2
                have hcs3 := csr_prefix hcs2
                rw [cells_length] at hcs3
                have hm := splice_csr hcs3 hq'.cs (o := off) (by rw [hul]; simp; omega)
                have hy := ofCells_csr hof hm
                have hfin := splice_csr (o := i.toNat * width k) h3 hy (by rw [setLL_length]; simp; omega)
                rw [setLL_mid vals _ _ _ _ (by rw [hul]; exact hle) (by omega)] at hfin
                exact hst.csr hfin (fun _ _ _ => rfl)
        · cases hz
    · cases hz
  · cases hz

/-! ### maps keyed by vertices -/
theorem vertOf_val {G : Nat → Prop} {cs : List C} {u : Vert} {v : Value} (h : vertOf cs = some u) (hv : V1R w μ G (.agg cs) v) : v = vertV u := by
  obtain ⟨vs, rfl, hc⟩ := hv
  unfold vertOf at h
  obtain ⟨c1, l1, n1, rfl, h1, h⟩ := popI_some h
  obtain ⟨c2, l2, n2, rfl, h2, h⟩ := popI_some h
  obtain ⟨rfl, rfl⟩ := fin0_some h
  have key : ∀ {c : C} {n : Int} {x : Value}, intOf c = some n → CR w μ G c x → x = .int .i64 n := by
    intro c n x hi hx
    unfold intOf at hi
    split at hi
    · obtain rfl := Option.some.inj hi
      cases hx; rfl
    · cases hi
  obtain ⟨vs⟩ := vs
  match vs, hc with
  | [x, y], hc => rw [key h1 hc.1, key h2 hc.2.1]; rfl
theorem put_map {B : Nat} {es' : Array MapEntry} {clk' : Nat} {ob : Obj} (hb : w.heap[B]? = some ob) : w.grownBy { w with heap := w.heap.setIfInBounds B (.map es' clk') } (some B) :=
  ⟨rfl, rfl, rfl, by simp, fun k hk hne => by
    have : B ≠ k := fun e => hne (by rw [e])
    simp [Array.getElem?_setIfInBounds_ne this]⟩
theorem snd_putM (c : Ctx P R w0 N ops μ r a w ch) {t : TypeId} {x y v : Operand} (ho : o.op = .mapUpdate t x y v ∨ o.op = .insert t x y v) (hdst : o.dst = none) {m k e : AV} (h1 : rho r ch x = some m) (h2 : rho r ch y = some k) (h3 : rho r ch v = some e)
    {z : OR} (hz : evPutM r t m k e = some z) : Snd P R w0 r o z μ a w := by
  have q1 := rho_r c h1
  have q2 := rho_r c h2
  have q3 := rho_r c h3
  unfold evPutM at hz
  split at hz
  · rename_i b cs
    have key : ∀ {α : Type} {f : α → Value} {zz : α} (hm : MapOK P t f zz) {B : Nat} {es : Array MapEntry} {clk : Nat} {kv : List (Vert × α)} {u : Vert} {yy : α} {blk : Blk}, μ b = .box B → w.heap[B]? = some (.map es clk) → es.toList.map (fun e => (e.key, e.val)) = kv.map (fun p => (vertV p.1, f p.2)) →
        a.eval y = vertV u → a.eval v = f yy → (∀ (w' : World) es' clk', w'.heap[B]? = some (.map es' clk') → es'.toList.map (fun e => (e.key, e.val)) = (S.kvPut u yy kv).map (fun p => (vertV p.1, f p.2)) → BR R w0.heap.size w' μ b blk) → Snd P R w0 r o ⟨[], .v (.c .undef), none, [(b, blk)], [], [b]⟩ μ a w := by
      intro α f zz hm B es clk kv u yy blk hB hheap hes hu hv hblk
      have hx : a.eval x = .map (some B) := by
        generalize a.eval x = ux at q1
        cases q1 with
        | mp h => rw [hB] at h; injection h with h; rw [h]
      obtain ⟨es', clk', hrun, hes'⟩ := hm.upd w B es clk kv hheap hes u yy
      intro K Q hK
      have hgr := put_map (w := w) (es' := es') (clk' := clk') hheap
      refine wp_skipped (w' := { w with heap := w.heap.setIfInBounds B (.map es' clk') }) (by rcases ho with ho | ho <;> simp [execOp, ho, hx, hu, hv, hrun]) (hK _ μ _ (post_put c (B := B) (by rw [hB]; rfl) hdst ⟨rfl, rfl, rfl⟩ hgr ?_ _))
      refine hblk _ es' clk' ?_ hes'
      have hlt : B < w.heap.size := (Array.getElem?_eq_some_iff.1 hheap).1
      simp [hlt]
    split at hz
    · rename_i u kv hu hl ht
      split at hz
      · rename_i yy
        have hz' := Option.some.inj hz
        subst hz'
        obtain ⟨B, es, clk, e1, e2, e3, e4⟩ := c.rel.mem.bl _ _ hl
        have htt : t = 106 := by
          unfold mapK at ht
          cases hb : Nat.beq t 106 with
          | true => exact Nat.eq_of_beq_eq_true hb
          | false => rw [hb] at ht; cases hb2 : Nat.beq t 107 <;> rw [hb2] at ht <;> cases ht
        subst htt
        exact key c.tok.mpb e1 e3 e4 (vertOf_val hu q2) (val_eq q3) (fun w' es' clk' g1 g2 => ⟨B, es', clk', e1, e2, g1, g2⟩)
      · cases hz
    · rename_i u kv hu hl ht
      split at hz
      · rename_i yy
        have hz' := Option.some.inj hz
        subst hz'
        obtain ⟨B, es, clk, e1, e2, e3, e4⟩ := c.rel.mem.bl _ _ hl
        have htt : t = 107 := by
          unfold mapK at ht
          cases hb : Nat.beq t 106 with
          | true => rw [hb] at ht; cases ht
          | false =>
            rw [hb] at ht
            cases hb2 : Nat.beq t 107 with
            | true => exact Nat.eq_of_beq_eq_true hb2
            | false => rw [hb2] at ht; cases ht
        subst htt
        exact key c.tok.mpi e1 e3 e4 (vertOf_val hu q2) (val_eq q3) (fun w' es' clk' g1 g2 => ⟨B, es', clk', e1, e2, g1, g2⟩)
      · cases hz
    · cases hz
  · cases hz
theorem snd_lookM (c : Ctx P R w0 N ops μ r a w ch) {t : TypeId} {x y : Operand} {cc : Bool} (ho : o.op = .lookup t x y cc) {m k : AV} (h1 : rho r ch x = some m) (h2 : rho r ch y = some k) {z : OR} (hz : evLookM r t m k cc = some z) : Snd P R w0 r o z μ a w := by
  have q1 := rho_r c h1
  have q2 := rho_r c h2
  unfold evLookM at hz
  split at hz
  · rename_i b cs
    have key : ∀ {α : Type} {f : α → Value} {zz : α} (hm : MapOK P t f zz) {B : Nat} {es : Array MapEntry} {clk : Nat} {kv : List (Vert × α)} {u : Vert}, μ b = .box B → w.heap[B]? = some (.map es clk) → es.toList.map (fun e => (e.key, e.val)) = kv.map (fun p => (vertV p.1, f p.2)) →
        a.eval y = vertV u → (∀ y, (f y).oneCell' = true) → Snd P R w0 r o ⟨[], bif cc then .tup [.c (.val (f ((S.kvLook u kv).getD zz))), .c (bo (S.kvLook u kv).isSome)] else .v (.c (.val (f ((S.kvLook u kv).getD zz)))), none, [], [], [b]⟩ μ a w := by
      intro α f zz hm B es clk kv u hB hheap hes hu hone
      have hx : a.eval x = .map (some B) := by
        generalize a.eval x = ux at q1
        cases q1 with
        | mp h => rw [hB] at h; injection h with h; rw [h]
      have hrun := hm.look w B es clk kv hheap hes u cc
      refine Snd.pure c.rel.mem (u := if cc then .tuple #[f ((S.kvLook u kv).getD zz), .bool (S.kvLook u kv).isSome] else f ((S.kvLook u kv).getD zz)) (by simp [execOp, ho, hx, hu, hrun]) ⟨rfl, rfl, rfl⟩ ?_
      cases cc with
      | true => exact ⟨_, rfl, CR.val _ (hone _), CR.val _ rfl, trivial⟩
      | false => exact CR.val _ (hone _)
    split at hz
    · rename_i u kv hu hl ht
      have hz' := Option.some.inj hz
      subst hz'
      obtain ⟨B, es, clk, e1, e2, e3, e4⟩ := c.rel.mem.bl _ _ hl
      have htt : t = 106 := by
        unfold mapK at ht
        cases hb : Nat.beq t 106 with
        | true => exact Nat.eq_of_beq_eq_true hb
        | false => rw [hb] at ht; cases hb2 : Nat.beq t 107 <;> rw [hb2] at ht <;> cases ht
      subst htt
      exact key c.tok.mpb e1 e3 e4 (vertOf_val hu q2) (fun _ => rfl)
    · rename_i u kv hu hl ht
      have hz' := Option.some.inj hz
      subst hz'
      obtain ⟨B, es, clk, e1, e2, e3, e4⟩ := c.rel.mem.bl _ _ hl
      have htt : t = 107 := by
        unfold mapK at ht
        cases hb : Nat.beq t 106 with
        | true => rw [hb] at ht; cases ht
        | false =>
          rw [hb] at ht
          cases hb2 : Nat.beq t 107 with
          | true => exact Nat.eq_of_beq_eq_true hb2
          | false => rw [hb2] at ht; cases ht
      subst htt
      exact key c.tok.mpi e1 e3 e4 (vertOf_val hu q2) (fun _ => rfl)
    · cases hz
  · cases hz
end
end Go.Proofs.Ytoknhjmcoleejaa
