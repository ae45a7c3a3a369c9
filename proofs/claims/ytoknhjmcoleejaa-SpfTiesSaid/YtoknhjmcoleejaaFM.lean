/- Maps whose keys are vertices: what the model's own steps do. No condition. -/
import Derived.Test.YtoknhjmcoleejaaFA
import Derived.MapKept
set_option linter.unusedVariables false
set_option linter.unusedSimpArgs false
namespace Go.Proofs.Ytoknhjmcoleejaa
open Go.RowKit
theorem vert_eq {d : Nat} (u v : Vert) (w : World) : (Op.equalIn (d + 2) 38 (vertV u) (vertV v)).run Try.prog w = .ok (decide (u = v)) w := by
  have h : (Op.equalIn (d + 2) 38 (vertV u) (vertV v)).run Try.prog w = .ok (decide ([u.kind, u.id] = [v.kind, v.id])) w := try_eq38 d [u.kind, u.id] [v.kind, v.id] w rfl rfl
  have e : decide ([u.kind, u.id] = [v.kind, v.id]) = decide (u = v) := by
    cases u; cases v; simp
  exact h.trans (congrArg (fun b => Result.ok b w) e)
theorem find_asking (u : Vert) (w : World) : ∀ (l : List MapEntry) (ks : List Vert) (i : Nat), l.map (·.key) = ks.map vertV → (Instr.findAsking 38 (vertV u) l i).run Try.prog w = .ok ((((l.zip ks).zipIdx i).find? (fun p => decide (u = p.1.2))).map fun p => (p.2, p.1.1.val)) w
  | [], ks, i, h => by simp [Instr.findAsking]
  | e :: l, [], i, h => by simp at h
  | e :: l, k :: ks, i, h => by
    simp only [List.map_cons, List.cons.injEq] at h
    have ih := find_asking u w l ks (i + 1) h.2
    have he : (Op.equal 38 (vertV u) e.key).run Try.prog w = .ok (decide (u = k)) w := by
      rw [h.1]; exact vert_eq (d := 9998) u k w
    rw [Instr.findAsking]
    simp only [Sem.run_bind, he, Result.andThen_ok]
    by_cases hk : u = k
    · simp [hk]
    · simp [hk, ih]
/-- Where a key stands in a row of keys. -/
def kpos (u : Vert) : List Vert → Nat → Option Nat
  | [], _ => none
  | k :: ks, i => if u = k then some i else kpos u ks (i + 1)
theorem und38 : ∃ F : Array Field, Try.prog.underlying 38 = some (.struct F) ∧ F.toList.map (fun f => (f.offset, f.type)) = [(0, 3), (1, 3)] := (try_ty 38 _ rfl).und
theorem find_key (u : Vert) (w : World) (l : List MapEntry) (ks : List Vert) (h : l.map (·.key) = ks.map vertV) : (Instr.findKey 38 (vertV u) l).run Try.prog w = (Instr.findAsking 38 (vertV u) l 0).run Try.prog w := by
  obtain ⟨F, hF, _⟩ := und38
  unfold Instr.findKey
  simp only [Sem.run_bind, run_underlying hF, Result.andThen_ok]
  cases l with
  | nil => simp [Instr.findNow, Instr.findAsking]
  | cons e l => simp [Instr.findNow, Instr.sameNow]
theorem check_int (e : Bool) (n : Nat) (x : Int) (w : World) : (Instr.checkKey e (n + 1) 3 (.int .i64 x)).run Try.prog w = .ok () w := by
  have h : Try.prog.underlying 3 = some (.int .i64) := (try_ty 3 _ rfl).und
  simp [Instr.checkKey, run_underlying h]
theorem check_key (e : Bool) (n : Nat) (u : Vert) (w : World) : (Instr.checkKey e (n + 2) 38 (vertV u)).run Try.prog w = .ok () w := by
  obtain ⟨F, hF, hf⟩ := und38
  have h3 := try_ty 3 _ rfl
  have hia := isAgg_run (w := w) h3
  simp only at hia
  rw [Instr.checkKey]
  simp only [Sem.run_bind, run_underlying hF, Result.andThen_ok, vertV]
  rw [← Array.forIn_toList]
  generalize F.toList = fs at hf
  match fs, hf with
  | [], hf => simp at hf
  | [_], hf => simp at hf
  | _ :: _ :: _ :: _, hf => simp at hf
  | [f1, f2], hf =>
    simp only [List.map_cons, List.map_nil, List.cons.injEq, Prod.mk.injEq, and_true] at hf
    obtain ⟨⟨o1, t1⟩, o2, t2⟩ := hf
    have p1 : (part f1.type #[Value.int .i64 u.kind, Value.int .i64 u.id] f1.offset).run Try.prog w = .ok (.int .i64 u.kind) w := by simp [part, o1, t1, hia]
    have p2 : (part f2.type #[Value.int .i64 u.kind, Value.int .i64 u.id] f2.offset).run Try.prog w = .ok (.int .i64 u.id) w := by simp [part, o2, t2, hia]
    have c1 : (Instr.checkKey e (n + 1) f1.type (.int .i64 u.kind)).run Try.prog w = .ok () w := by rw [t1]; exact check_int e n _ w
    have c2 : (Instr.checkKey e (n + 1) f2.type (.int .i64 u.id)).run Try.prog w = .ok () w := by rw [t2]; exact check_int e n _ w
    by_cases n1 : f1.name = "_" <;> by_cases n2 : f2.name = "_" <;> simp [n1, n2, p1, p2, c1, c2]
theorem find_val {α : Type} (u : Vert) (w : World) (f : α → Value) : ∀ (l : List MapEntry) (kv : List (Vert × α)) (i : Nat), l.map (fun e => (e.key, e.val)) = kv.map (fun p => (vertV p.1, f p.2)) →
    ∃ r, (Instr.findAsking 38 (vertV u) l i).run Try.prog w = .ok r w ∧ r.map (·.2) = (S.kvLook u kv).map f
  | [], [], i, h => ⟨none, by simp [Instr.findAsking], rfl⟩
  | [], _ :: _, i, h => by simp at h
  | _ :: _, [], i, h => by simp at h
  | e :: l, p :: kv, i, h => by
    simp only [List.map_cons, List.cons.injEq, Prod.mk.injEq] at h
    obtain ⟨⟨h1, h2⟩, h3⟩ := h
    obtain ⟨r, hr, hv⟩ := find_val u w f l kv (i + 1) h3
    have he : (Op.equal 38 (vertV u) e.key).run Try.prog w = .ok (decide (u = p.1)) w := by
      rw [h1]; exact vert_eq (d := 9998) u p.1 w
    by_cases hk : u = p.1
    · refine ⟨some (i, e.val), ?_, ?_⟩
      · rw [Instr.findAsking]
        simp only [Sem.run_bind, he, Result.andThen_ok]
        simp [hk]
      · simp [S.kvLook, hk, h2]
    · refine ⟨r, ?_, ?_⟩
      · rw [Instr.findAsking]
        simp only [Sem.run_bind, he, Result.andThen_ok]
        simp [hk, hr]
      · simp [S.kvLook, hk, hv]
theorem find_place {α : Type} (u : Vert) (x : α) (w : World) (f : α → Value) : ∀ (l : List MapEntry) (kv : List (Vert × α)) (i : Nat), l.map (fun e => (e.key, e.val)) = kv.map (fun p => (vertV p.1, f p.2)) →
    ((Instr.findAsking 38 (vertV u) l i).run Try.prog w = .ok none w ∧ S.kvPut u x kv = kv ++ [(u, x)]) ∨
    (∃ j v, (Instr.findAsking 38 (vertV u) l i).run Try.prog w = .ok (some (i + j, v)) w ∧ (∃ p, kv[j]? = some p ∧ p.1 = u) ∧ S.kvPut u x kv = kv.set j (u, x))
  | [], [], i, h => .inl ⟨by simp [Instr.findAsking], rfl⟩
  | [], _ :: _, i, h => by simp at h
  | _ :: _, [], i, h => by simp at h
  | e :: l, p :: kv, i, h => by
    simp only [List.map_cons, List.cons.injEq, Prod.mk.injEq] at h
    obtain ⟨⟨h1, h2⟩, h3⟩ := h
    have he : (Op.equal 38 (vertV u) e.key).run Try.prog w = .ok (decide (u = p.1)) w := by
      rw [h1]; exact vert_eq (d := 9998) u p.1 w
    by_cases hk : u = p.1
    · refine .inr ⟨0, e.val, ?_, ⟨p, rfl, hk.symm⟩, by simp [S.kvPut, hk]⟩
      rw [Instr.findAsking]
      simp only [Sem.run_bind, he, Result.andThen_ok]
      simp [hk]
    · have hrun : (Instr.findAsking 38 (vertV u) (e :: l) i).run Try.prog w = (Instr.findAsking 38 (vertV u) l (i + 1)).run Try.prog w := by
        rw [Instr.findAsking]
        simp only [Sem.run_bind, he, Result.andThen_ok]
        simp [hk]
      rcases find_place u x w f l kv (i + 1) h3 with ⟨q1, q2⟩ | ⟨j, v, q1, q2, q3⟩
      · exact .inl ⟨by rw [hrun, q1], by simp [S.kvPut, hk, q2]⟩
      · exact .inr ⟨j + 1, v, hrun.trans (q1.trans (by rw [show i + 1 + j = i + (j + 1) by omega])), by simpa using q2, by simp [S.kvPut, hk, q3]⟩
theorem run_look {α : Type} {t et : TypeId} (hm : Try.prog.underlying t = some (.map 38 et)) {w : World} {z : Value} (hz : (zeroValue et).run Try.prog w = .ok z w) {B : Nat} {es : Array MapEntry} {clk : Nat} (hb : w.heap[B]? = some (.map es clk))
    (f : α → Value) (kv : List (Vert × α)) (h : es.toList.map (fun e => (e.key, e.val)) = kv.map (fun p => (vertV p.1, f p.2))) (u : Vert) (c : Bool) :
    (Instr.lookup t (.map (some B)) (vertV u) c).run Try.prog w = .ok (let v := ((S.kvLook u kv).map f).getD z; if c then .tuple #[v, .bool (S.kvLook u kv).isSome] else v) w := by
  have hk : es.toList.map (·.key) = (kv.map (·.1)).map vertV := by
    have := congrArg (List.map Prod.fst) h
    simpa [List.map_map, Function.comp_def] using this
  obtain ⟨r, hr, hv⟩ := find_val u w f es.toList kv 0 h
  have hf := find_key u w es.toList (kv.map (·.1)) hk
  rw [hr] at hf
  unfold Instr.lookup
  simp only [Sem.run_bind, run_underlying hm, Result.andThen_ok, MapKept.run_getObj_map hb, check_key _ 9998, hf]
  cases r with
  | none =>
    have : S.kvLook u kv = none := by
      cases hq : S.kvLook u kv with
      | none => rfl
      | some _ => rw [hq] at hv; simp at hv
    simp [this, hz, hf]
  | some p =>
    obtain ⟨i, v⟩ := p
    cases hq : S.kvLook u kv with
    | none => rw [hq] at hv; simp at hv
    | some x =>
      rw [hq] at hv
      simp only [Option.map_some, Option.some.injEq] at hv
      simp [hv, hf]
theorem key_stays (u : Vert) (w : World) : (Instr.keyThatStays (vertV u) (vertV u)).run Try.prog w = .ok (vertV u) w := by
  have h : Instr.sameBits 10000 (vertV u) (vertV u) = true := by simp [vertV, Instr.sameBits]
  simp [Instr.keyThatStays, h]
theorem run_upd {α : Type} {t et : TypeId} (hm : Try.prog.underlying t = some (.map 38 et)) {w : World} {B : Nat} {es : Array MapEntry} {clk : Nat} (hb : w.heap[B]? = some (.map es clk))
    (f : α → Value) (kv : List (Vert × α)) (h : es.toList.map (fun e => (e.key, e.val)) = kv.map (fun p => (vertV p.1, f p.2))) (u : Vert) (x : α) :
    ∃ es' clk', (Instr.mapUpdate t (.map (some B)) (vertV u) (f x)).run Try.prog w = .ok () { w with heap := w.heap.setIfInBounds B (.map es' clk') } ∧ es'.toList.map (fun e => (e.key, e.val)) = (S.kvPut u x kv).map (fun p => (vertV p.1, f p.2)) := by
  have hk : es.toList.map (·.key) = (kv.map (·.1)).map vertV := by
    have := congrArg (List.map Prod.fst) h
    simpa [List.map_map, Function.comp_def] using this
  have hf := find_key u w es.toList (kv.map (·.1)) hk
  rcases find_place u x w f es.toList kv 0 h with ⟨q1, q2⟩ | ⟨j, v, q1, ⟨p, q2, q2'⟩, q3⟩
  · refine ⟨es.push { key := vertV u, val := f x, born := clk }, clk + 1, ?_, by simp [q2, h]⟩
    rw [q1] at hf
    unfold Instr.mapUpdate
    simp only [Sem.run_bind, run_underlying hm, Result.andThen_ok, MapKept.run_getObj_map hb, check_key _ 9998, hf]
    simp [MapKept.run_setObj_map _ hb, hf]
  · rw [q1] at hf
    rw [Nat.zero_add] at hf
    have hlen : es.toList.length = kv.length := by have := congrArg List.length h; simpa using this
    have hj : j < kv.length := (List.getElem?_eq_some_iff.1 q2).1
    have hje : j < es.size := by rw [← Array.length_toList, hlen]; exact hj
    have hkey : es[j].key = vertV u := by
      have := congrArg (fun l => l[j]?) h
      simp only [List.getElem?_map, q2, Option.map_some, Array.getElem?_toList, Array.getElem?_eq_getElem hje, Option.some.injEq, Prod.mk.injEq] at this
      rw [this.1, q2']
    refine ⟨es.modify j fun e => { e with key := vertV u, val := f x }, clk, ?_, ?_⟩
    · unfold Instr.mapUpdate
      simp only [Sem.run_bind, run_underlying hm, Result.andThen_ok, MapKept.run_getObj_map hb, check_key _ 9998, hf]
      simp [Array.getElem?_eq_getElem hje, hkey, key_stays, MapKept.run_setObj_map _ hb, hf]
    · rw [q3, List.map_set, ← h]
      apply List.ext_getElem?
      intro i
      simp only [List.getElem?_map, Array.toList_modify, List.getElem?_modify, List.getElem?_set, List.length_map, Array.length_toList]
      by_cases e : j = i
      · subst e; simp [hje, Array.getElem?_eq_getElem hje]
      · simp [e]
theorem try_mpb : MapOK Try.prog 106 Value.bool false := by
  have hm : Try.prog.underlying 106 = some (.map 38 4) := by kernel_rfl
  obtain ⟨z, hz, h1, h2, h3⟩ := zero_run (w := default) (try_ty 4 _ rfl)
  refine ⟨fun w B es clk kv hb h u c => ?_, fun w B es clk kv hb h u x => run_upd hm hb Value.bool kv h u x⟩
  have hz : (zeroValue 4).run Try.prog w = .ok (.bool false) w := by
    obtain ⟨z, hz, h1, h2, h3⟩ := zero_run (w := w) (try_ty 4 _ rfl)
    have : z = .bool false := by
      obtain ⟨i, z', e1, e2, e3, e4, e5, e6⟩ := (try_ty 4 _ rfl).info
      cases z <;> simp [Value.cells, bo] at h1 <;> simp_all
    rw [this] at hz; exact hz
  have := run_look hm hz hb Value.bool kv h u c
  rw [this]
  cases S.kvLook u kv <;> cases c <;> rfl
theorem try_mpi : MapOK Try.prog 107 (Value.int .i64) 0 := by
  have hm : Try.prog.underlying 107 = some (.map 38 3) := by kernel_rfl
  refine ⟨fun w B es clk kv hb h u c => ?_, fun w B es clk kv hb h u x => run_upd hm hb (Value.int .i64) kv h u x⟩
  have hz : (zeroValue 3).run Try.prog w = .ok (.int .i64 0) w := by
    obtain ⟨z, hz, h1, h2, h3⟩ := zero_run (w := w) (try_ty 3 _ rfl)
    have : z = .int .i64 0 := by
      cases z <;> simp [Value.cells, i64] at h1 <;> simp_all
    rw [this] at hz; exact hz
  have := run_look hm hz hb (Value.int .i64) kv h u c
  rw [this]
  cases S.kvLook u kv <;> cases c <;> rfl
theorem try_tok : TOK Try.prog := by
  refine ⟨try_mpb, try_mpi, try_ty, try_el, try_mixed, try_eqg, fun t n fs z ht hl us vs w hu hv => ?_⟩
  have hall : eqTs.all (fun t => match look TT t with | some x => eqCk Try.prog true x.size t | none => false) = true := by kernel_rfl
  have h1 := List.all_eq_true.1 hall t (nmem_iff.1 ht)
  rw [hl] at h1
  exact eqCk_r (d := 9998) (try_ty 3 _ rfl) (try_ty 38 _ rfl) (fun _ => try_eq38 9997) h1 us vs hu hv
end Go.Proofs.Ytoknhjmcoleejaa
