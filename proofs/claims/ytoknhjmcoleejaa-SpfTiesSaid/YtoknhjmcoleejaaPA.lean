/- Plain facts: scanning, maps keyed by vertices, places; the program's tree is the document's. No program in sight. No condition. -/
import Derived.Test.YtoknhjmcoleejaaGQ
set_option linter.unusedVariables false
set_option linter.unusedSimpArgs false
namespace Go.Proofs.Ytoknhjmcoleejaa

/-! ### scanning a list -/
theorem scan_drop {α : Type} (p : α → Bool) (xs : List α) (d : α) : ∀ (n i : Nat), i + n = xs.length → S.scan (fun i => p (xs.getD i.toNat d)) n (i : Int) = ((xs.drop i).findIdx? p).map fun k => ((k + i : Nat) : Int)
  | 0, i, h => by rw [S.scan, List.drop_of_length_le (by omega)]; rfl
  | n + 1, i, h => by
    have hi : i < xs.length := by omega
    have e : xs.getD i d = xs[i] := by simp [List.getD_eq_getElem?_getD, List.getElem?_eq_getElem hi]
    rw [S.scan, List.drop_eq_getElem_cons hi, List.findIdx?_cons]
    simp only [Int.toNat_natCast, e]
    by_cases hp : p xs[i] = true
    · rw [if_pos hp, if_pos hp]; simp
    · rw [if_neg hp, if_neg hp, show ((i : Int) + 1) = ((i + 1 : Nat) : Int) by omega, scan_drop p xs d n (i + 1) (by omega)]
      cases (xs.drop (i + 1)).findIdx? p with
      | none => rfl
      | some k => simp; omega
theorem scan_find {α : Type} (p : α → Bool) (xs : List α) (d : α) : S.scan (fun i => p (xs.getD i.toNat d)) xs.length 0 = (xs.findIdx? p).map (fun (k : Nat) => (k : Int)) := by
  have := scan_drop p xs d xs.length 0 (by omega)
  simpa using this
theorem scan_any {α : Type} (p : α → Bool) (xs : List α) (d : α) : (S.scan (fun i => p (xs.getD i.toNat d)) xs.length 0).isSome = xs.any p := by
  rw [scan_find]
  cases h : xs.findIdx? p with
  | none =>
    rw [List.findIdx?_eq_none_iff] at h
    have : xs.any p = false := by rw [List.any_eq_false]; intro x hx; rw [h x hx]; decide
    rw [this]; rfl
  | some k =>
    obtain ⟨hk, h1, _⟩ := List.findIdx?_eq_some_iff_getElem.1 h
    have : xs.any p = true := List.any_eq_true.2 ⟨_, List.getElem_mem hk, h1⟩
    rw [this]; rfl
theorem veq_comm (a b : Vert) : S.veq a b = S.veq b a := by
  rw [Bool.eq_iff_iff, veq_iff, veq_iff]; exact eq_comm
/-! ### places -/
theorem place_eq (t : List Node) (v : Vert) : S.place t v = ((t.findIdx? fun x => S.veq x.vert v).map (fun (k : Nat) => (k : Int))).getD (-1) := by
  unfold S.place S.placeAt
  rw [scan_find (fun x : Node => S.veq x.vert v) t (zero .node)]
theorem place_nonneg {t : List Node} {v : Vert} (h : 0 ≤ S.place t v) : ∃ i, S.place t v = (i : Nat) ∧ ∃ hi : i < t.length, t[i].vert = v ∧ ∀ j (hj : j < i), (t[j]'(by omega)).vert ≠ v := by
  rw [place_eq] at h ⊢
  cases hf : t.findIdx? fun x => S.veq x.vert v with
  | none => rw [hf] at h; simp at h
  | some k =>
    obtain ⟨hk, h1, h2⟩ := List.findIdx?_eq_some_iff_getElem.1 hf
    refine ⟨k, rfl, hk, veq_iff.1 h1, fun j hj e => ?_⟩
    have := h2 j hj
    exact this (veq_iff.2 e)
theorem place_neg {t : List Node} {v : Vert} : S.place t v < 0 ↔ ∀ x, x ∈ t → x.vert ≠ v := by
  rw [place_eq]
  cases hf : t.findIdx? fun x => S.veq x.vert v with
  | none =>
    rw [List.findIdx?_eq_none_iff] at hf
    simp only [Option.map_none, Option.getD_none]
    refine ⟨fun _ x hx e => ?_, fun _ => by decide⟩
    have := hf x hx
    rw [veq_iff.2 e] at this; cases this
  | some k =>
    obtain ⟨hk, h1, _⟩ := List.findIdx?_eq_some_iff_getElem.1 hf
    simp only [Option.map_some, Option.getD_some]
    refine ⟨fun h => by omega, fun h => absurd (veq_iff.1 h1) (h _ (List.getElem_mem hk))⟩
theorem place_append (t : List Node) (x : Node) (v : Vert) : S.place (t ++ [x]) v = if 0 ≤ S.place t v then S.place t v else if x.vert = v then (t.length : Int) else -1 := by
  rw [place_eq, place_eq, List.findIdx?_append]
  cases hf : t.findIdx? fun x => S.veq x.vert v with
  | some k => simp
  | none =>
    simp only [Option.none_or, Option.map_none, Option.getD_none]
    rw [if_neg (by decide)]
    by_cases e : x.vert = v
    · rw [if_pos e]
      simp [List.findIdx?_cons, veq_iff.2 e]
    · rw [if_neg e]
      have : S.veq x.vert v = false := by
        cases h : S.veq x.vert v with
        | false => rfl
        | true => exact absurd (veq_iff.1 h) e
      simp [List.findIdx?_cons, this]
/-! ### the vertices that there are -/
theorem isMap_look (vs : List Vert) (v : Vert) : S.kvLook v (S.isMap vs) = if v ∈ vs then some true else none := by
  unfold S.isMap
  rw [iter_foldl]
  have key : ∀ (xs : List Vert) (kv : List (Vert × Bool)), S.kvLook v (xs.foldl S.isStep kv) = if v ∈ xs then some true else S.kvLook v kv := by
    intro xs
    induction xs with
    | nil => intro kv; simp
    | cons x l ih =>
      intro kv
      rw [List.foldl_cons, ih, S.isStep, kvLook_put]
      by_cases h1 : v ∈ l
      · simp [h1]
      · by_cases h2 : v = x
        · simp [h1, h2]
        · simp [h1, h2]
  rw [key]
  rfl
theorem vhas_iff {xs : List Vert} {v : Vert} : S.vhas xs v = true ↔ v ∈ xs := by
  unfold S.vhas S.vindex S.vidx
  rw [scan_find (fun x : Vert => S.veq v x) xs (zero .vert)]
  cases hf : xs.findIdx? fun x => S.veq v x with
  | none =>
    rw [List.findIdx?_eq_none_iff] at hf
    refine ⟨fun h => by simp at h, fun h => ?_⟩
    have := hf v h
    rw [veq_iff.2 rfl] at this; cases this
  | some k =>
    obtain ⟨hk, h1, _⟩ := List.findIdx?_eq_some_iff_getElem.1 hf
    refine ⟨fun _ => ?_, fun _ => by simp⟩
    rw [veq_iff.1 h1]; exact List.getElem_mem hk
theorem isRoot_iff {m : TMap} {v : Vert} : S.isRoot m v = true ↔ v ∈ m.verts := by
  unfold S.isRoot
  rw [iter_foldl]
  have key : ∀ (xs : List Vert) (f : Bool), xs.foldl (S.isOr v) f = true ↔ f = true ∨ v ∈ xs := by
    intro xs
    induction xs with
    | nil => intro f; simp
    | cons x l ih =>
      intro f
      rw [List.foldl_cons, ih, S.isOr, Bool.or_eq_true, veq_iff, List.mem_cons, or_assoc]
      constructor
      · rintro (h | h | h)
        · exact .inl h
        · exact .inr (.inl h.symm)
        · exact .inr (.inr h)
      · rintro (h | h | h)
        · exact .inl h
        · exact .inr (.inl h.symm)
        · exact .inr (.inr h)
  rw [key]
  simp

/-! ### the two orders -/
def KindOK (v : Vert) : Prop := v.kind = 1 ∨ v.kind = 2
theorem or_two (a b : Int) : S.or [a, b] = if a ≠ 0 then a else b := by
  unfold S.or S.orAt
  by_cases h : a = 0
  · by_cases h2 : b = 0
    · subst h h2; simp [S.scan]
    · subst h; simp [S.scan, h2]
  · simp [S.scan, h]
theorem wrap_cmp (a b : Int) : IntKind.i64.wrap (0 - S.cmp a b) = 0 - S.cmp a b := by
  unfold S.cmp
  by_cases h1 : a < b
  · rw [if_pos h1]; decide
  · rw [if_neg h1]
    by_cases h2 : b < a
    · rw [if_pos h2]; decide
    · rw [if_neg h2]; decide
theorem ahead_lt {a b : Vert} (ha : KindOK a) (hb : KindOK b) : decide (S.ahead a b < 0) = S.first a b := by
  unfold S.ahead S.first
  rw [or_two, wrap_cmp]
  unfold S.cmp
  by_cases hk : a.kind = b.kind
  · have h3 : (a.kind != b.kind) = false := by simp [hk]
    have h0 : (if a.kind < b.kind then (-1 : Int) else if b.kind < a.kind then 1 else 0) = 0 := by rw [if_neg (by omega), if_neg (by omega)]
    rw [h0, h3]
    simp only [Int.sub_zero, ne_eq, not_true_eq_false, if_false, Bool.false_eq_true]
    by_cases h4 : a.id < b.id
    · simp [h4]
    · by_cases h5 : b.id < a.id <;> simp [h4, h5]
  · have h3 : (a.kind != b.kind) = true := by simp [hk]
    rw [h3, if_pos rfl]
    rcases ha with ha | ha <;> rcases hb with hb | hb <;> rw [ha, hb] at hk <;> first
      | exact absurd rfl hk
      | (rw [ha, hb]; simp)
theorem first_irrefl (a : Vert) : S.first a a = false := by simp [S.first]
theorem better_eq {t : List Node} (ht : ∀ x, x ∈ t → KindOK x.vert) {a b : Node} (ha : KindOK a.vert) (hb : KindOK b.vert) (pa : inb a.parent t.length = true) (pb : inb b.parent t.length = true) : S.better t a b = S.sooner t a b := by
  have hget : ∀ {x : Node}, inb x.parent t.length = true → KindOK (t.getD x.parent.toNat (zero .node)).vert := by
    intro x hx
    have := inb_iff.1 hx
    have hlt : x.parent.toNat < t.length := by omega
    have e : t.getD x.parent.toNat (zero .node) = t[x.parent.toNat] := by simp [List.getD_eq_getElem?_getD, List.getElem?_eq_getElem hlt]
    rw [e]
    exact ht _ (List.getElem_mem hlt)
  unfold S.better S.betterC S.sooner
  by_cases hc : a.cost = b.cost
  · have h1 : S.cmp a.cost b.cost = 0 := by unfold S.cmp; rw [if_neg (by omega), if_neg (by omega)]
    have h2 : (a.cost != b.cost) = false := by simp [hc]
    rw [h2]
    simp only [h1]
    by_cases hv : a.vert = b.vert
    · have h3 : S.veq a.vert b.vert = true := veq_iff.2 hv
      simp only [h3]
      by_cases hp : a.parent = b.parent
      · simp only [hp, bne_self_eq_false, Bool.false_eq_true, if_false, Bool.not_true]
        have := ahead_lt (hget pb) (hget pb)
        rw [first_irrefl] at this
        simpa using this
      · have h4 : (a.parent != b.parent) = true := by simp [hp]
        have := ahead_lt (hget pa) (hget pb)
        simp only [h4, if_true]
        simpa using this
    · have h3 : S.veq a.vert b.vert = false := by
        cases h : S.veq a.vert b.vert with
        | false => rfl
        | true => exact absurd (veq_iff.1 h) hv
      have := ahead_lt ha hb
      simp only [h3]
      simpa using this
  · have h2 : (a.cost != b.cost) = true := by simp [hc]
    rw [h2, if_pos rfl]
    have h1 : S.cmp a.cost b.cost ≠ 0 ∧ (S.cmp a.cost b.cost < 0 ↔ a.cost < b.cost) := by
      unfold S.cmp
      by_cases h : a.cost < b.cost
      · rw [if_pos h]; simp [h]
      · rw [if_neg h, if_pos (by omega)]; simp; omega
    simp [h1.1, h1.2]

/-! ### the two trees -/
/-- What stands in the map of places. -/
def PlOK (t : List Node) (pl : List (Vert × Int)) : Prop := ∀ v, S.kvLook v pl = if 0 ≤ S.place t v then some (S.place t v) else none
theorem plOK_look {t : List Node} {pl : List (Vert × Int)} (h : PlOK t pl) (v : Vert) : (S.kvLook v pl).isSome = decide (0 ≤ S.place t v) ∧ (0 ≤ S.place t v → (S.kvLook v pl).getD 0 = S.place t v) := by
  rw [h v]
  by_cases hp : 0 ≤ S.place t v
  · rw [if_pos hp]; simp [hp]
  · rw [if_neg hp]; simp [hp]
theorem place_lt (t : List Node) (v : Vert) : S.place t v < t.length := by
  by_cases h : 0 ≤ S.place t v
  · obtain ⟨i, h1, h2, _⟩ := place_nonneg h
    omega
  · omega
def RelN (t : List Node) (s : Node × Bool) (x : Node) : Prop := (s.2 = false ∧ x.parent < 0) ∨ (s = (x, true) ∧ inb x.parent t.length = true ∧ KindOK x.vert)
structure TM (m : TMap) : Prop where
  dst : ∀ e, e ∈ m.edges → e.dst ∈ m.verts
  kind : ∀ v, v ∈ m.verts → KindOK v
theorem round_rel {m : TMap} (hm : TM m) {t : List Node} {pl : List (Vert × Int)} (hpl : PlOK t pl) (ht : ∀ x, x ∈ t → KindOK x.vert) : RelN t (S.tRound (S.isMap m.verts) m.edges t pl) (S.rRound m t) := by
  unfold S.tRound S.rRound
  rw [iter_foldl, iter_foldl]
  have key : ∀ (es : List Edge), (∀ e, e ∈ es → e ∈ m.edges) → ∀ (s : Node × Bool) (x : Node), RelN t s x → RelN t (es.foldl (S.tEdge (S.isMap m.verts) pl t) s) (es.foldl (S.rEdge t) x) := by
    intro es
    induction es with
    | nil => intro _ s x h; exact h
    | cons e l ih =>
      intro hes s x h
      rw [List.foldl_cons, List.foldl_cons]
      refine ih (fun e he => hes e (by simp [he])) _ _ ?_
      have hd := hm.dst e (hes e (by simp))
      have hk := hm.kind _ hd
      have p1 := plOK_look hpl e.src
      have p2 := plOK_look hpl e.dst
      have hs : S.skips (S.isMap m.verts) pl e = S.rSkip t e := by
        unfold S.skips S.rSkip
        rw [p1.1, p2.1, isMap_look, if_pos hd]
        by_cases q : 0 ≤ S.place t e.src
        · have : ¬ S.place t e.src < 0 := by omega
          simp [q, this]
        · have : S.place t e.src < 0 := by omega
          simp [q, this]
      unfold S.tEdge S.rEdge
      rw [hs]
      cases hsk : S.rSkip t e with
      | true => simpa using h
      | false =>
        have h0 : 0 ≤ S.place t e.src := by
          simp only [S.rSkip, Bool.or_eq_false_iff, decide_eq_false_iff_not] at hsk
          omega
        have hn : S.newNode pl t e = S.rNode t e := by
          unfold S.newNode S.rNode
          rw [p1.2 h0]
        have hin : inb (S.rNode t e).parent t.length = true := by
          rw [inb_iff]; exact ⟨h0, place_lt t e.src⟩
        simp only [Bool.false_eq_true, if_false, hn]
        rcases h with ⟨h1, h2⟩ | ⟨rfl, h2, h3⟩
        · rw [h1]
          have : decide (x.parent < 0) = true := decide_eq_true h2
          rw [this]
          simp only [Bool.not_false, Bool.true_or, if_true]
          exact .inr ⟨rfl, hin, hk⟩
        · have : decide (x.parent < 0) = false := by have := inb_iff.1 h2; exact decide_eq_false (by omega)
          rw [this, better_eq ht hk h3 hin h2]
          simp only [Bool.not_true, Bool.false_or]
          cases S.sooner t (S.rNode t e) x with
          | true => exact .inr ⟨rfl, hin, hk⟩
          | false => exact .inr ⟨rfl, h2, h3⟩
  exact key m.edges (fun _ h => h) _ _ (.inl ⟨rfl, by decide⟩)
theorem plOK_put {t : List Node} {pl : List (Vert × Int)} (h : PlOK t pl) {x : Node} (hx : S.place t x.vert < 0) : PlOK (t ++ [x]) (S.kvPut x.vert t.length pl) := by
  intro v
  rw [kvLook_put, place_append, h v]
  by_cases h1 : v = x.vert
  · subst h1
    have h2 : ¬ 0 ≤ S.place t x.vert := by omega
    simp [h2]
  · have h1' : ¬ x.vert = v := fun e => h1 e.symm
    by_cases h2 : 0 ≤ S.place t v
    · simp [h1, h2]
    · simp [h1, h1', h2]
theorem loop_eq {m : TMap} (hm : TM m) : ∀ (n k : Nat) (t : List Node) (pl : List (Vert × Int)), S.todo (S.isMap m.verts) pl < n → S.todo (S.isMap m.verts) pl ≤ k → PlOK t pl → (∀ x, x ∈ t → KindOK x.vert) → S.tLoop (S.isMap m.verts) m.edges n t pl = S.rLoop m k t
  | 0, k, t, pl, h, _, _, _ => by omega
  | n + 1, k, t, pl, h, hk, hpl, ht => by
    have hrel := round_rel hm hpl ht
    rw [S.tLoop]
    by_cases hf : (S.tRound (S.isMap m.verts) m.edges t pl).2 = true
    · rw [if_pos hf]
      rcases hrel with ⟨h1, _⟩ | ⟨h1, h2, h3⟩
      · rw [h1] at hf; cases hf
      · have hlt := todo_lt hf (x := t.length)
        obtain ⟨k', rfl⟩ : ∃ k', k = k' + 1 := ⟨k - 1, by omega⟩
        rw [S.rLoop, if_neg (by have := inb_iff.1 h2; omega)]
        obtain ⟨e, he, hsk, hnew⟩ := tRound_found hf
        have hx : S.place t (S.rRound m t).vert < 0 := by
          have e1 : (S.rRound m t).vert = e.dst := by
            have : (S.tRound (S.isMap m.verts) m.edges t pl).1 = S.rRound m t := by rw [h1]
            rw [← this, hnew]; rfl
          rw [e1]
          have p2 := (plOK_look hpl e.dst).1
          simp only [S.skips, Bool.or_eq_false_iff] at hsk
          rw [p2] at hsk
          have := of_decide_eq_false hsk.1.2
          omega
        have e1 : (S.tRound (S.isMap m.verts) m.edges t pl).1 = S.rRound m t := by rw [h1]
        rw [e1] at hlt ⊢
        exact loop_eq hm n k' _ _ (by omega) (by omega) (plOK_put hpl hx) (fun y hy => by
          rcases List.mem_append.1 hy with hy | hy
          · exact ht y hy
          · rw [List.mem_singleton] at hy; rw [hy]; exact h3)
    · rw [if_neg hf]
      rcases hrel with ⟨_, h2⟩ | ⟨h1, _, _⟩
      · cases k with
        | zero => rfl
        | succ k => rw [S.rLoop, if_pos h2]
      · rw [h1] at hf; exact absurd rfl hf
theorem tree_eq {m : TMap} (hm : TM m) (ro : Vert) : S.tree m ro = S.rtree m ro := by
  unfold S.tree S.rtree
  by_cases h : ro ∈ m.verts
  · rw [if_pos (vhas_iff.2 h), if_pos (isRoot_iff.2 h)]
    refine loop_eq hm _ _ _ _ (Nat.lt_succ_self _) (Nat.le_trans (todo_le _ _) (isMap_len _)) (fun v => ?_) (fun x hx => ?_)
    · have := place_append [] ⟨ro, -1, 0, 0⟩ v
      simp only [List.nil_append] at this
      rw [this]
      have h0 : S.place [] v = -1 := rfl
      rw [h0]
      simp only [S.kvPut, S.kvLook]
      by_cases e : v = ro
      · subst e; simp
      · have e' : ¬ ro = v := fun h => e h.symm
        simp [e, e']
    · rw [List.mem_singleton] at hx; rw [hx]; exact hm.kind _ h
  · rw [if_neg (fun h' => h (vhas_iff.1 h')), if_neg (fun h' => h (isRoot_iff.1 h'))]
theorem tLoop_len (is : List (Vert × Bool)) (es : List Edge) : ∀ (n : Nat) (t : List Node) (pl : List (Vert × Int)), (S.tLoop is es n t pl).length ≤ t.length + n
  | 0, t, pl => by simp [S.tLoop]
  | n + 1, t, pl => by
    rw [S.tLoop]
    split
    · have := tLoop_len is es n (t ++ [(S.tRound is es t pl).1]) (S.kvPut (S.tRound is es t pl).1.vert t.length pl)
      simp only [List.length_append, List.length_singleton] at this
      omega
    · omega
theorem tree_len (m : TMap) (ro : Vert) : (S.tree m ro).length ≤ m.verts.length + 2 := by
  unfold S.tree
  split
  · have h1 := tLoop_len (S.isMap m.verts) m.edges (S.todo (S.isMap m.verts) (S.kvPut ro 0 []) + 1) [⟨ro, -1, 0, 0⟩] (S.kvPut ro 0 [])
    have h2 := todo_le (S.isMap m.verts) (S.kvPut ro 0 [])
    have h3 := isMap_len m.verts
    simp only [List.length_singleton] at h1
    omega
  · simp
theorem nodes_refl (t : List Node) : S.nodes t t = true := by
  unfold S.nodes
  rw [if_pos (by simp)]
  have : (S.nodesAt t t).isSome = false := by
    cases h : S.nodesAt t t with
    | none => rfl
    | some i =>
      have := (scan_some h).2.2.1
      simp [S.neqN] at this
  rw [this]; rfl
end Go.Proofs.Ytoknhjmcoleejaa
