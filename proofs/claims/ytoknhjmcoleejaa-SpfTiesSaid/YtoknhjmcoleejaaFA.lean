/- The program's own table of types: what the engine asks of it. No condition. -/
import Derived.Test.YtoknhjmcoleejaaEW
import Derived.Test.YtoknhjmcoleejaaProg
import Derived.Laws.StructEq
import Derived.KernelRfl
set_option linter.unusedVariables false
set_option linter.unusedSimpArgs false
namespace Go.Proofs.Ytoknhjmcoleejaa
open Go.RowKit

def cEq : C → Value → Bool
  | .val (.int k a), .int k' b => decide (k = k') && decide (a = b)
  | .val (.bool a), .bool b => decide (a = b)
  | .val (.slice none 0 0), .slice none 0 0 => true
  | _, _ => false
theorem cEq_r {c : C} {v : Value} (h : cEq c v = true) : c = .val v ∧ v.oneCell' = true := by
  unfold cEq at h
  split at h
  · simp only [Bool.and_eq_true, decide_eq_true_eq] at h
    obtain ⟨rfl, rfl⟩ := h
    exact ⟨rfl, rfl⟩
  · simp only [decide_eq_true_eq] at h
    subst h
    exact ⟨rfl, rfl⟩
  · exact ⟨rfl, rfl⟩
  · cases h
def csEq : List C → List Value → Bool
  | [], [] => true
  | c :: cs, v :: vs => cEq c v && csEq cs vs
  | _, _ => false
theorem csEq_r : ∀ {cs : List C} {vs : List Value}, csEq cs vs = true → vs.map C.val = cs ∧ vs.all (fun v => v.oneCell') = true
  | [], [], _ => ⟨rfl, rfl⟩
  | c :: cs, v :: vs, h => by
    simp only [csEq, Bool.and_eq_true] at h
    obtain ⟨h1, h2⟩ := cEq_r h.1
    obtain ⟨h3, h4⟩ := csEq_r h.2
    exact ⟨by simp [h1, h3], by rw [List.all_cons, h2, h4]; rfl⟩
  | [], _ :: _, h => by cases h
  | _ :: _, [], h => by cases h
def fsEq : List Field → List (Nat × TypeId) → Bool
  | [], [] => true
  | f :: l, p :: m => Nat.beq f.offset p.1 && Nat.beq f.type p.2 && fsEq l m
  | _, _ => false
theorem fsEq_r : ∀ {l : List Field} {m : List (Nat × TypeId)}, fsEq l m = true → l.map (fun f => (f.offset, f.type)) = m
  | [], [], _ => rfl
  | f :: l, p :: m, h => by
    simp only [fsEq, Bool.and_eq_true] at h
    have h1 := Nat.eq_of_beq_eq_true h.1.1
    have h2 := Nat.eq_of_beq_eq_true h.1.2
    rw [List.map_cons, fsEq_r h.2, h1, h2]
  | [], _ :: _, h => by cases h
  | _ :: _, [], h => by cases h
def undCk (sh : Sh) (u : Option TypeDesc) : Bool :=
  match sh, u with
  | .int k, some (.int k') => decide (k = k')
  | .bool, some .bool => true
  | .slice k, some (.slice e) => Nat.beq e (elemT k)
  | .agg fs, some (.struct F) => fsEq F.toList fs
  | _, _ => false
def tyCk (P : Program) (t : TypeId) (x : Ty) : Bool :=
  undCk x.sh (P.underlying t) && Nat.blt 0 x.size && match P.info? t with
    | some i => match i.zero with
      | some z => Nat.beq i.size x.size && csEq x.zero z.cells.toList && Nat.beq z.cells.size x.size
      | none => false
    | none => false
theorem tyCk_r {P : Program} {t : TypeId} {x : Ty} (h : tyCk P t x = true) : TyOK P t x := by
  unfold tyCk at h
  rw [Bool.and_eq_true, Bool.and_eq_true] at h
  obtain ⟨⟨h1, h2⟩, h3⟩ := h
  refine ⟨?_, ?_, Nat.le_of_ble_eq_true h2⟩
  · obtain ⟨sh, n, z⟩ := x
    simp only at h1 ⊢
    unfold undCk at h1
    split at h1
    · rename_i hu
      rw [hu]
      simp only [decide_eq_true_eq] at h1
      rw [h1]
    · rename_i hu; exact hu
    · rename_i hu
      rw [hu, Nat.eq_of_beq_eq_true h1]
    · rename_i F hu
      exact ⟨F, hu, fsEq_r h1⟩
    · cases h1
  · split at h3
    · rename_i i hi
      split at h3
      · rename_i z hz
        simp only [Bool.and_eq_true] at h3
        obtain ⟨q1, q2⟩ := csEq_r h3.1.2
        exact ⟨i, z, hi, Nat.eq_of_beq_eq_true h3.1.1, hz, q1, q2, Nat.eq_of_beq_eq_true h3.2⟩
      · cases h3
    · cases h3
/-! ### elements -/
def elC : C → Value → Bool
  | .sl _ [], .slice none 0 0 => true
  | c, v => cEq c v
theorem elC_r {c : C} {v : Value} (h : elC c v = true) (w : World) (μ : Nat → Gh) (G : Nat → Prop) : CR w μ G c v := by
  unfold elC at h
  split at h
  · exact .slnil
  · obtain ⟨rfl, h2⟩ := cEq_r h
    exact .val v h2
def elCs : List C → List Value → Bool
  | [], [] => true
  | c :: cs, v :: vs => elC c v && elCs cs vs
  | _, _ => false
theorem elCs_r (w : World) (μ : Nat → Gh) (G : Nat → Prop) : ∀ {cs : List C} {vs : List Value}, elCs cs vs = true → CsR w μ G cs vs
  | [], [], _ => trivial
  | c :: cs, v :: vs, h => by
    simp only [elCs, Bool.and_eq_true] at h
    exact ⟨elC_r h.1 w μ G, elCs_r w μ G h.2⟩
  | [], _ :: _, h => by cases h
  | _ :: _, [], h => by cases h
def elCk (P : Program) (k : K) : Bool :=
  match P.info? (elemT k) with
  | some i => match i.zero with
    | some z => Nat.beq i.size (width k) && Nat.beq i.bytes (bytesT k) && Nat.beq z.cells.size (width k) && elCs (cells k (zero k)) z.cells.toList
    | none => false
  | none => false
theorem elCk_r {P : Program} {k : K} (h : elCk P k = true) : ElOK P k := by
  unfold elCk at h
  split at h
  · rename_i i hi
    split at h
    · rename_i z hz
      simp only [Bool.and_eq_true] at h
      obtain ⟨⟨⟨h1, h2⟩, h3⟩, h4⟩ := h
      exact ⟨i, z, hi, Nat.eq_of_beq_eq_true h1, Nat.eq_of_beq_eq_true h2, hz, Nat.eq_of_beq_eq_true h3, fun w μ G => elCs_r w μ G h4⟩
    · cases h
  · cases h
theorem try_tyAll : TT.all (fun p => tyCk Try.prog p.1 p.2) = true := by kernel_rfl
theorem try_ty (t : TypeId) (x : Ty) (h : look TT t = some x) : TyOK Try.prog t x := by
  obtain ⟨p, hp, h1, h2⟩ := look_mem h
  have := List.all_eq_true.1 try_tyAll p hp
  rw [h1, h2] at this
  exact tyCk_r this
theorem try_el (k : K) : ElOK Try.prog k := by
  have h : ([K.u8, .bl, .u32, .int, .vert, .edge, .stub, .span, .link, .lsa, .node, .route, .outp, .near, .port].all (elCk Try.prog)) = true := by kernel_rfl
  exact elCk_r (List.all_eq_true.1 h k (by cases k <;> simp))
theorem try_mixed : Try.prog.follows .mixedOrders = true := by kernel_rfl
theorem try_eqg (t : TypeId) (h : nmem t eqTs = true) : Try.prog.eqGuardType Try.prog.depth t = false := by
  have h1 : eqTs.all (fun t => !Try.prog.eqGuardType Try.prog.depth t) = true := by kernel_rfl
  have := List.all_eq_true.1 h1 t (nmem_iff.1 h)
  simpa using this
/-! ### structs compared -/
section
variable {P : Program} {d : Nat} {xs ys : Array Value} {f : Field} {fs : List Field} {a b : Value} {r s : Bool} {w : World}
theorem eqf_cons (hn : (f.name == "_") = false) (ha : (part f.type xs f.offset).run P w = .ok a w) (hb : (part f.type ys f.offset).run P w = .ok b w) (he : (Op.equalIn d f.type a b).run P w = .ok r w) (hr : (Op.eqFields d xs ys fs).run P w = .ok s w) : (Op.eqFields d xs ys (f :: fs)).run P w = .ok (r && s) w := by
  have hn' : f.name ≠ "_" := by simpa using hn
  rw [Op.eqFields]
  simp only [if_pos hn', Sem.run_bind, ha, hb, he, Result.andThen_ok]
  cases r
  · simp
  · simpa using hr
theorem eqf_nil : (Op.eqFields d xs ys []).run P w = .ok true w := by simp [Op.eqFields]
/-- Fields that are numbers or vertices, one behind another from o on to n. -/
def contig (v : Bool) (n : Nat) : Nat → List Field → Bool
  | o, [] => Nat.beq o n
  | o, f :: fs => !(f.name == "_") && Nat.beq f.offset o && ((Nat.beq f.type 3 && contig v n (o + 1) fs) || (v && Nat.beq f.type 38 && contig v n (o + 2) fs))
def ints (l : List Int) : Array Value := (l.map (Value.int .i64)).toArray
def eq38 (P : Program) (d : Nat) : Prop := ∀ (us vs : List Int) (w : World), us.length = 2 → vs.length = 2 → (Op.equalIn d 38 (.agg (ints us)) (.agg (ints vs))).run P w = .ok (decide (us = vs)) w
theorem contig_le {v : Bool} {n : Nat} : ∀ {fs : List Field} {o : Nat}, contig v n o fs = true → o ≤ n
  | [], o, h => by simp only [contig] at h; exact Nat.le_of_eq (Nat.eq_of_beq_eq_true h)
  | f :: fs, o, h => by
    simp only [contig, Bool.and_eq_true, Bool.or_eq_true] at h
    rcases h.2 with h | h
    · have := contig_le h.2; omega
    · have := contig_le h.2; omega
theorem dec_cons {α : Type} [DecidableEq α] (x y : α) (A B : List α) : (decide (x = y) && decide (A = B)) = decide (x :: A = y :: B) := by
  by_cases h1 : x = y <;> by_cases h2 : A = B <;> simp [h1, h2]
theorem dec_app {α : Type} [DecidableEq α] (x y : List α) (A B : List α) (h : x.length = y.length) : (decide (x = y) && decide (A = B)) = decide (x ++ A = y ++ B) := by
  have : (x ++ A = y ++ B) ↔ (x = y ∧ A = B) := ⟨fun e => List.append_inj e h, fun ⟨h1, h2⟩ => by rw [h1, h2]⟩
  by_cases h1 : x = y <;> by_cases h2 : A = B <;> simp [h1, h2, this]
theorem eqf_contig {v : Bool} {n : Nat} (h3 : TyOK P 3 ⟨.int .i64, 1, [i64 0]⟩) (h38 : TyOK P 38 ⟨.agg [(0, 3), (1, 3)], 2, zi 2⟩) (he38 : v = true → eq38 P (d + 1)) (us vs : List Int) (hu : us.length = n) (hv : vs.length = n) : ∀ (fs : List Field) (o : Nat), contig v n o fs = true →
    (Op.eqFields (d + 1) (ints us) (ints vs) fs).run P w = .ok (decide (us.drop o = vs.drop o)) w
  | [], o, h => by
    simp only [contig] at h
    obtain rfl := Nat.eq_of_beq_eq_true h
    rw [eqf_nil, List.drop_eq_nil_of_le (by omega), List.drop_eq_nil_of_le (by omega)]
    simp
  | f :: fs, o, h => by
    simp only [contig, Bool.and_eq_true, Bool.not_eq_true', Bool.or_eq_true] at h
    obtain ⟨⟨hn, ho⟩, h⟩ := h
    have p1 := Nat.eq_of_beq_eq_true ho
    rcases h with ⟨ht, h⟩ | ⟨⟨hvt, ht⟩, h⟩
    · have p2 := Nat.eq_of_beq_eq_true ht
      have hle := contig_le h
      have ih := eqf_contig h3 h38 he38 us vs hu hv fs (o + 1) h
      have hia := isAgg_run (w := w) h3
      simp only at hia
      have hp : ∀ l : List Int, (hl : o < l.length) → (part f.type (ints l) f.offset).run P w = .ok (.int .i64 l[o]) w := by
        intro l hl
        simp [part, p1, p2, hia, hl, ints]
      have he : (Op.equalIn (d + 1) f.type (.int .i64 (us[o]'(by omega))) (.int .i64 (vs[o]'(by omega)))).run P w = .ok (decide (us[o]'(by omega) = vs[o]'(by omega))) w := by
        rw [p2]; exact run_equalIn_int _ d 3 .i64 .i64 _ _ h3.und
      rw [eqf_cons hn (hp us (by omega)) (hp vs (by omega)) he ih, dec_cons]
      have e1 : us.drop o = us[o]'(by omega) :: us.drop (o + 1) := List.drop_eq_getElem_cons (by omega)
      have e2 : vs.drop o = vs[o]'(by omega) :: vs.drop (o + 1) := List.drop_eq_getElem_cons (by omega)
      rw [e1, e2]
    · have p2 := Nat.eq_of_beq_eq_true ht
      have hle := contig_le h
      have ih := eqf_contig h3 h38 he38 us vs hu hv fs (o + 2) h
      have hia := isAgg_run (w := w) h38
      have hsz := sizeOf_run (w := w) h38
      simp only at hia hsz
      have hp : ∀ l : List Int, o + 2 ≤ l.length → (part f.type (ints l) f.offset).run P w = .ok (.agg (ints ((l.drop o).take 2))) w := by
        intro l hl
        have hx : (ints l).extract o (o + 2) = ints ((l.drop o).take 2) := by
          apply Array.toList_inj.1
          simp [ints, List.extract_eq_take_drop, List.map_take, List.map_drop]
        simp [part, p1, p2, hia, hsz, hx]
      have he := he38 hvt ((us.drop o).take 2) ((vs.drop o).take 2) w (by simp; omega) (by simp; omega)
      rw [← p2] at he
      rw [eqf_cons hn (hp us (by omega)) (hp vs (by omega)) he ih, dec_app _ _ _ _ (by simp; omega)]
      have e : ∀ l : List Int, (l.drop o).take 2 ++ l.drop (o + 2) = l.drop o := by
        intro l
        rw [← List.drop_drop, List.take_append_drop]
      rw [e, e]
theorem eq_struct {v : Bool} {n : Nat} {t : TypeId} {F : Array Field} (h3 : TyOK P 3 ⟨.int .i64, 1, [i64 0]⟩) (h38 : TyOK P 38 ⟨.agg [(0, 3), (1, 3)], 2, zi 2⟩) (he38 : v = true → eq38 P (d + 1)) (hF : P.underlying t = some (.struct F)) (hs : P.stoodInHeld t = false) (hc : contig v n 0 F.toList = true)
    (us vs : List Int) (hu : us.length = n) (hv : vs.length = n) : (Op.equalIn (d + 2) t (.agg (ints us)) (.agg (ints vs))).run P w = .ok (decide (us = vs)) w := by
  have hf : P.fieldsOf t = F := by simp [Program.fieldsOf, hF]
  rw [run_equalIn_struct w (d + 1) t _ _ (by rw [hf]; exact hF) hs, hf, eqf_contig h3 h38 he38 us vs hu hv F.toList 0 hc]
  simp
end
def eqCk (P : Program) (v : Bool) (n : Nat) (t : TypeId) : Bool := !(P.stoodInHeld t) && match P.underlying t with
  | some (.struct F) => contig v n 0 F.toList
  | _ => false
theorem eqCk_r {P : Program} {v : Bool} {n d : Nat} {t : TypeId} {w : World} (h3 : TyOK P 3 ⟨.int .i64, 1, [i64 0]⟩) (h38 : TyOK P 38 ⟨.agg [(0, 3), (1, 3)], 2, zi 2⟩) (he38 : v = true → eq38 P (d + 1)) (h : eqCk P v n t = true)
    (us vs : List Int) (hu : us.length = n) (hv : vs.length = n) : (Op.equalIn (d + 2) t (.agg (ints us)) (.agg (ints vs))).run P w = .ok (decide (us = vs)) w := by
  unfold eqCk at h
  rw [Bool.and_eq_true, Bool.not_eq_true'] at h
  split at h
  · rename_i F hF
    exact eq_struct h3 h38 he38 hF h.1 h.2 us vs hu hv
  · exact absurd h.2 (by simp)
theorem try_eq38 (d : Nat) : eq38 Try.prog (d + 2) := fun us vs w hu hv => eqCk_r (v := false) (try_ty 3 _ rfl) (try_ty 38 _ rfl) (by simp) (show eqCk Try.prog false 2 38 = true by kernel_rfl) us vs hu hv
end Go.Proofs.Ytoknhjmcoleejaa
