/- Plain facts of the document's map: its vertices, edges, the rest. No program in sight. No condition. -/
import Derived.Test.YtoknhjmcoleejaaPA
set_option linter.unusedVariables false
set_option linter.unusedSimpArgs false
namespace Go.Proofs.Ytoknhjmcoleejaa

/-! ### a vertex put into a row -/
theorem shift_get : ∀ (n : Nat) (xs : List Vert) (j : Nat), n ≤ j → j < xs.length → ∀ i, (S.shift n xs (j : Int))[i]? = if j - n < i ∧ i ≤ j then xs[i - 1]? else xs[i]?
  | 0, xs, j, h1, h2, i => by rw [S.shift, if_neg (by omega)]
  | n + 1, xs, j, h1, h2, i => by
    obtain ⟨q, rfl⟩ : ∃ q, j = q + 1 := ⟨j - 1, by omega⟩
    have e : ((q + 1 : Nat) : Int) - 1 = (q : Nat) := by omega
    rw [S.shift, e, shift_get n _ q (by omega) (by simp; omega) i]
    simp only [Int.toNat_natCast]
    have hq : xs.getD q (zero .vert) = xs[q] := by simp [List.getD_eq_getElem?_getD, List.getElem?_eq_getElem (by omega : q < xs.length)]
    rw [hq]
    by_cases hi : i = q + 1
    · subst hi
      rw [if_neg (by omega), if_pos (by omega), List.getElem?_set_self h2]
      simp [List.getElem?_eq_getElem (by omega : q < xs.length)]
    · by_cases h3 : q - n < i ∧ i ≤ q
      · rw [if_pos h3, if_pos (by omega), List.getElem?_set_ne (by omega)]
      · rw [if_neg h3, if_neg (by omega), List.getElem?_set_ne (by omega)]
theorem vpos_nat (xs : List Vert) (v : Vert) : ∃ p : Nat, S.vpos xs v = (p : Int) ∧ p ≤ xs.length ∧ (∀ i (hi : i < xs.length), i < p → S.vlt xs[i] v = true) ∧ (∀ hp : p < xs.length, S.vlt xs[p] v = false) := by
  unfold S.vpos S.vposAt
  rw [scan_find (fun x : Vert => !(S.vlt x v)) xs (zero .vert)]
  cases hf : xs.findIdx? fun x => !(S.vlt x v) with
  | none =>
    rw [List.findIdx?_eq_none_iff] at hf
    refine ⟨xs.length, by simp, Nat.le_refl _, fun i hi _ => ?_, fun hp => by omega⟩
    have := hf _ (List.getElem_mem hi)
    simpa using this
  | some k =>
    obtain ⟨hk, h1, h2⟩ := List.findIdx?_eq_some_iff_getElem.1 hf
    refine ⟨k, by simp, by omega, fun i hi hik => ?_, fun hp => by simpa using h1⟩
    have := h2 i hik
    simpa using this
theorem vput_eq (xs : List Vert) (v : Vert) : (v ∈ xs ∧ S.vput xs v = xs) ∨ ∃ p, p ≤ xs.length ∧ S.vput xs v = xs.take p ++ v :: xs.drop p ∧ (∀ i (hi : i < xs.length), i < p → S.vlt xs[i] v = true) ∧ (∀ hp : p < xs.length, S.vlt xs[p] v = false ∧ xs[p] ≠ v) := by
  obtain ⟨p, h1, h2, h3, h4⟩ := vpos_nat xs v
  unfold S.vput
  rw [h1]
  simp only [Int.toNat_natCast]
  by_cases hc : (decide ((p : Int) < xs.length) && S.veq (xs.getD p (zero .vert)) v) = true
  · rw [if_pos hc]
    simp only [Bool.and_eq_true, decide_eq_true_eq] at hc
    have hp : p < xs.length := by omega
    have e : xs.getD p (zero .vert) = xs[p] := by simp [List.getD_eq_getElem?_getD, List.getElem?_eq_getElem hp]
    rw [e] at hc
    exact .inl ⟨by rw [← veq_iff.1 hc.2]; exact List.getElem_mem hp, rfl⟩
  · rw [if_neg hc]
    refine .inr ⟨p, h2, ?_, h3, fun hp => ⟨h4 hp, fun e => ?_⟩⟩
    · have e1 : ((xs.length : Int) - (p : Nat)).toNat = xs.length - p := by omega
      rw [e1]
      apply List.ext_getElem?
      intro i
      have hsh := shift_get (xs.length - p) (xs ++ [⟨0, 0⟩]) xs.length (by omega) (by simp) i
      have hl : (S.shift (xs.length - p) (xs ++ [(⟨0, 0⟩ : Vert)]) xs.length).length = xs.length + 1 := by rw [shift_len]; simp
      rw [List.getElem?_append, List.length_take, Nat.min_eq_left h2]
      by_cases hi : i = p
      · subst hi
        rw [List.getElem?_set_self (by rw [hl]; omega), if_neg (by omega)]
        simp
      · rw [List.getElem?_set_ne (by omega), hsh]
        by_cases hlt : i < p
        · rw [if_neg (by omega), if_pos hlt, List.getElem?_take, if_pos hlt, List.getElem?_append_left (by omega)]
        · rw [if_neg hlt]
          obtain ⟨q, hq⟩ : ∃ q, i - p = q + 1 := ⟨i - p - 1, by omega⟩
          rw [hq, List.getElem?_cons_succ, List.getElem?_drop]
          by_cases hle : i ≤ xs.length
          · rw [if_pos (by omega), List.getElem?_append_left (by omega)]
            congr 1; omega
          · rw [if_neg (by omega), List.getElem?_eq_none (by simp; omega), List.getElem?_eq_none (by omega)]
    · apply hc
      have e' : xs.getD p (zero .vert) = xs[p] := by simp [List.getD_eq_getElem?_getD, List.getElem?_eq_getElem hp]
      rw [e', e]
      simp [veq_iff.2 rfl, hp]
theorem mem_vput {xs : List Vert} {v u : Vert} : u ∈ S.vput xs v ↔ u ∈ xs ∨ u = v := by
  rcases vput_eq xs v with ⟨h1, h2⟩ | ⟨p, _, h2, _⟩
  · rw [h2]
    exact ⟨.inl, fun h => h.elim id (fun e => e ▸ h1)⟩
  · rw [h2, List.mem_append, List.mem_cons]
    constructor
    · rintro (h | h | h)
      · exact .inl (List.mem_of_mem_take h)
      · exact .inr h
      · exact .inl (List.mem_of_mem_drop h)
    · rintro (h | h)
      · rw [← List.take_append_drop p xs, List.mem_append] at h
        exact h.elim .inl (fun h => .inr (.inr h))
      · exact .inr (.inl h)
/-! ### the vertices -/
/-- An advertisement tells of a vertex. -/
def Tells (l : Lsa) (u : Vert) : Prop := l.head.age < 3600 ∧ ((l.head.kind = 1 ∧ l.head.id = l.head.adv ∧ u = ⟨1, l.head.id⟩) ∨ (l.head.kind = 2 ∧ u = ⟨2, l.head.id⟩))
theorem mem_vstep {o : List Vert} {l : Lsa} {u : Vert} : u ∈ S.vstep o l ↔ u ∈ o ∨ Tells l u := by
  unfold S.vstep Tells
  by_cases ha : l.head.age < 3600
  · have h0 : decide (l.head.age ≥ 3600) = false := decide_eq_false (by omega)
    rw [h0]
    simp only [Bool.false_eq_true, if_false]
    by_cases h1 : l.head.kind = 1
    · have h2 : (l.head.kind == 2) = false := by rw [h1]; rfl
      rw [h2]
      simp only [Bool.false_eq_true, if_false]
      by_cases h3 : l.head.id = l.head.adv
      · have : (l.head.kind == 1 && l.head.id == l.head.adv) = true := by simp [h1, h3]
        rw [this, if_pos rfl, mem_vput]
        simp [h1, h3, ha]
      · have : (l.head.kind == 1 && l.head.id == l.head.adv) = false := by simp [h3]
        rw [this]
        simp [h1, h3]
    · have h3 : (l.head.kind == 1 && l.head.id == l.head.adv) = false := by simp [h1]
      rw [h3]
      simp only [Bool.false_eq_true, if_false]
      by_cases h2 : l.head.kind = 2
      · have : (l.head.kind == 2) = true := by simp [h2]
        rw [this, if_pos rfl, mem_vput]
        simp [h2, ha]
      · have : (l.head.kind == 2) = false := by simp [h2]
        rw [this]
        simp [h1, h2]
  · have h0 : decide (l.head.age ≥ 3600) = true := decide_eq_true (by omega)
    rw [h0]
    simp [ha]
theorem mem_verts {ls : List Lsa} {u : Vert} : u ∈ S.verts ls ↔ ∃ l, l ∈ ls ∧ Tells l u := by
  unfold S.verts
  rw [iter_foldl]
  have key : ∀ (xs : List Lsa) (o : List Vert), u ∈ xs.foldl S.vstep o ↔ u ∈ o ∨ ∃ l, l ∈ xs ∧ Tells l u := by
    intro xs
    induction xs with
    | nil => intro o; simp
    | cons x l ih =>
      intro o
      rw [List.foldl_cons, ih, mem_vstep]
      constructor
      · rintro ((h | h) | ⟨y, h1, h2⟩)
        · exact .inl h
        · exact .inr ⟨x, by simp, h⟩
        · exact .inr ⟨y, by simp [h1], h2⟩
      · rintro (h | ⟨y, h1, h2⟩)
        · exact .inl (.inl h)
        · rcases List.mem_cons.1 h1 with rfl | h1
          · exact .inl (.inr h2)
          · exact .inr ⟨y, h1, h2⟩
  rw [key]
  simp
theorem verts_kind {ls : List Lsa} {u : Vert} (h : u ∈ S.verts ls) : KindOK u := by
  obtain ⟨l, _, _, h | h⟩ := mem_verts.1 h
  · rw [h.2.2]; exact .inl rfl
  · rw [h.2]; exact .inr rfl
/-! ### the advertisement of a vertex -/
theorem find_mem {ls : List Lsa} {v : Vert} (h : (S.find ls v).2 = true) : (S.find ls v).1 ∈ ls ∧ (S.find ls v).1.head.age < 3600 ∧ S.isOf v (S.find ls v).1.head = true ∧ (S.find ls v).1.head.id = v.id := by
  revert h
  unfold S.find
  rw [iter_foldl]
  refine foldl_inv (fun s : Lsa × Bool => s.2 = true → s.1 ∈ ls ∧ s.1.head.age < 3600 ∧ S.isOf v s.1.head = true ∧ s.1.head.id = v.id) ls _ (fun h => by cases h) (fun s x hx hs => ?_)
  unfold S.findStep
  split
  · rename_i h
    simp only [S.findC, Bool.and_eq_true, decide_eq_true_eq, beq_iff_eq] at h
    exact fun _ => ⟨hx, h.1.1.1, h.1.1.2, h.1.2⟩
  · exact hs
theorem find_none {ls : List Lsa} {v : Vert} (h : (S.find ls v).2 = false) : (S.find ls v).1 = zero .lsa := by
  revert h
  unfold S.find
  rw [iter_foldl]
  refine foldl_inv (fun s : Lsa × Bool => s.2 = false → s.1 = zero .lsa) ls _ (fun _ => rfl) (fun s x hx hs => ?_)
  unfold S.findStep
  split
  · exact fun h => by cases h
  · exact hs
theorem isOf_tells {v : Vert} {l : Lsa} (h : S.isOf v l.head = true) (ha : l.head.age < 3600) (hid : l.head.id = v.id) : Tells l v := by
  simp only [S.isOf, Bool.or_eq_true, Bool.and_eq_true, beq_iff_eq] at h
  obtain ⟨k, i⟩ := v
  simp only at h hid
  rcases h with ⟨⟨h1, h2⟩, h3⟩ | ⟨h1, h2⟩
  · exact ⟨ha, .inl ⟨h2, h3, by rw [h1, hid]⟩⟩
  · exact ⟨ha, .inr ⟨h2, by rw [h1, hid]⟩⟩
theorem find_verts {ls : List Lsa} {v : Vert} (h : (S.find ls v).2 = true) : v ∈ S.verts ls := by
  obtain ⟨h1, h2, h3, h4⟩ := find_mem h
  exact mem_verts.2 ⟨_, h1, isOf_tells h3 h2 h4⟩
/-! ### edges -/
theorem iterI_inv {σ : Type} (P : σ → Prop) {f : Int → σ → σ} (hf : ∀ i s, P s → P (f i s)) : ∀ (n : Nat) (i : Int) (s : σ), P s → P (S.iterI f n i s)
  | 0, i, s, h => h
  | n + 1, i, s, h => iterI_inv P hf n (i + 1) _ (hf i s h)
/-- An edge of a vertex: from there, to a vertex that there is. -/
def EdgeOf (ls : List Lsa) (v : Vert) (e : Edge) : Prop := e.src = v ∧ (S.find ls e.dst).2 = true
theorem from_edge {ls : List Lsa} {v : Vert} {e : Edge} (h : e ∈ S.from ls v) : EdgeOf ls v e := by
  have h1 : ∀ e, e ∈ S.from1 ls v → EdgeOf ls v e := by
    unfold S.from1
    rw [iter_foldl]
    refine foldl_inv (fun o : List Edge => ∀ e, e ∈ o → EdgeOf ls v e) _ _ (fun e he => by cases he) (fun o k hk ho => ?_)
    have l1 : ∀ e, e ∈ S.link1 ls v o k → EdgeOf ls v e := by
      intro e he
      unfold S.link1 at he
      split at he
      · split at he
        · rename_i hc
          rcases List.mem_append.1 he with he | he
          · exact ho e he
          · rw [List.mem_singleton] at he
            subst he
            rw [Bool.and_eq_true] at hc
            exact ⟨rfl, hc.1⟩
        · exact ho e he
      · exact ho e he
    intro e he
    unfold S.linkStep S.link2 at he
    split at he
    · split at he
      · rename_i hc
        rcases List.mem_append.1 he with he | he
        · exact l1 e he
        · rw [List.mem_singleton] at he
          subst he
          rw [Bool.and_eq_true] at hc
          exact ⟨rfl, hc.1⟩
      · exact l1 e he
    · exact l1 e he
  unfold S.from at h
  refine iterI_inv (fun o : List Edge => ∀ e, e ∈ o → EdgeOf ls v e) (fun i o ho e he => ?_) _ _ _ h1 e h
  unfold S.roStep at he
  split at he
  · exact ho e he
  · split at he
    · rename_i hc
      rcases List.mem_append.1 he with he | he
      · exact ho e he
      · rw [List.mem_singleton] at he
        subst he
        rw [Bool.and_eq_true] at hc
        exact ⟨rfl, hc.1⟩
    · exact ho e he
/-! ### the map -/
theorem stubs_same (v : Vert) (x : Lsa) (m : TMap) : (S.stubs v x m).verts = m.verts ∧ (S.stubs v x m).edges = m.edges ∧ (S.stubs v x m).spans = m.spans ∧ (S.stubs v x m).wilds = m.wilds := by
  have h := stubIter v x.links x.links.length 0 m
  exact ⟨h.1, h.2.1, h.2.2.1, h.2.2.2.1⟩
theorem mapStep_edges (ls : List Lsa) (m : TMap) (v : Vert) : (S.mapStep ls m v).verts = m.verts ∧ (S.mapStep ls m v).edges = m.edges ++ S.from ls v := by
  unfold S.mapStep
  split
  · exact ⟨rfl, rfl⟩
  · split
    · have h := stubs_same v (S.find ls v).1 ⟨m.verts, m.edges ++ S.from ls v, m.stubs, m.spans, m.wilds ++ [v.id]⟩
      exact ⟨h.1, h.2.1⟩
    · have h := stubs_same v (S.find ls v).1 ⟨m.verts, m.edges ++ S.from ls v, m.stubs, m.spans, m.wilds⟩
      exact ⟨h.1, h.2.1⟩
theorem map_parts (ls : List Lsa) : (S.map ls).verts = S.verts ls ∧ (S.map ls).edges = (S.verts ls).flatMap (S.from ls) := by
  unfold S.map
  rw [iter_foldl]
  have key : ∀ (vs : List Vert) (m : TMap), (vs.foldl (S.mapStep ls) m).verts = m.verts ∧ (vs.foldl (S.mapStep ls) m).edges = m.edges ++ vs.flatMap (S.from ls) := by
    intro vs
    induction vs with
    | nil => intro m; simp
    | cons v l ih =>
      intro m
      rw [List.foldl_cons, (ih _).1, (ih _).2, (mapStep_edges ls m v).1, (mapStep_edges ls m v).2]
      simp
  have := key (S.verts ls) ⟨S.verts ls, [], [], [], []⟩
  simpa using this
theorem map_tm (ls : List Lsa) : TM (S.map ls) := by
  obtain ⟨h1, h2⟩ := map_parts ls
  refine ⟨fun e he => ?_, fun v hv => ?_⟩
  · rw [h2] at he
    rw [h1]
    obtain ⟨v, _, he⟩ := List.mem_flatMap.1 he
    exact find_verts (from_edge he).2
  · rw [h1] at hv; exact verts_kind hv
theorem flatMap_len {α β : Type} {f : α → List β} {c : Nat} : ∀ (l : List α), (∀ x, x ∈ l → (f x).length ≤ c) → (l.flatMap f).length ≤ l.length * c
  | [], _ => by simp
  | x :: l, h => by
    rw [List.flatMap_cons, List.length_append, List.length_cons, Nat.add_mul, Nat.one_mul]
    have h1 := h x (by simp)
    have h2 := flatMap_len l (fun y hy => h y (by simp [hy]))
    omega
theorem map_len {ls : List Lsa} (h : S.okM ls = true) : (S.map ls).verts.length ≤ 262144 ∧ (S.map ls).edges.length ≤ 549755813888 := by
  obtain ⟨h1, h2⟩ := map_parts ls
  have hl : ls.length ≤ 131072 := by
    have h' := h
    simp only [S.okM, Bool.and_eq_true, decide_eq_true_eq] at h'
    exact h'.1
  have hv := verts_len (ls := ls)
  have hv2 : (S.verts ls).length ≤ 262144 := by omega
  rw [h1, h2]
  refine ⟨hv2, ?_⟩
  have h3 := flatMap_len (f := S.from ls) (c := 2097152) (S.verts ls) (fun v _ => from_len2 h v)
  have : (S.verts ls).length * 2097152 ≤ 262144 * 2097152 := Nat.mul_le_mul_right _ hv2
  omega
end Go.Proofs.Ytoknhjmcoleejaa
