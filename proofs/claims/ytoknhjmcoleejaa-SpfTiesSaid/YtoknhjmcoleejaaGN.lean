/- The tree of the program, the contract. No condition. -/
import Derived.Test.YtoknhjmcoleejaaFC
import Derived.Test.YtoknhjmcoleejaaGM
set_option linter.unusedVariables false
set_option linter.unusedSimpArgs false
set_option maxHeartbeats 4000000
namespace Go.Proofs.Ytoknhjmcoleejaa
open Go.RowKit
theorem iter_drop {α σ : Type} (f : σ → α → σ) (xs : List α) (d : α) : ∀ (n : Nat) (i : Nat) (s : σ), i + n = xs.length → S.iter f xs d n (i : Int) s = (xs.drop i).foldl f s
  | 0, i, s, h => by rw [S.iter, List.drop_of_length_le (by omega)]; rfl
  | n + 1, i, s, h => by
    rw [S.iter, show ((i : Int) + 1) = ((i + 1 : Nat) : Int) by omega, iter_drop f xs d n (i + 1) _ (by omega)]
    rw [List.drop_eq_getElem_cons (by omega : i < xs.length), List.foldl_cons]
    simp [List.getD_eq_getElem?_getD, List.getElem?_eq_getElem (by omega : i < xs.length)]
theorem iter_foldl {α σ : Type} (f : σ → α → σ) (xs : List α) (d : α) (s : σ) : S.iter f xs d xs.length 0 s = xs.foldl f s := by
  have := iter_drop f xs d xs.length 0 s (by omega)
  simpa using this
theorem foldl_inv {α σ : Type} (P : σ → Prop) {f : σ → α → σ} : ∀ (xs : List α) (s : σ), P s → (∀ s x, x ∈ xs → P s → P (f s x)) → P (xs.foldl f s)
  | [], s, h, _ => h
  | x :: l, s, h, hf => foldl_inv P l _ (hf s x (by simp) h) (fun s y hy => hf s y (by simp [hy]))
/-! ### rounds -/
def S.tRound (is : List (Vert × Bool)) (es : List Edge) (t : List Node) (pl : List (Vert × Int)) : Node × Bool := S.iter (S.tEdge is pl t) es (zero .edge) es.length 0 (⟨⟨0, 0⟩, 0, 0, 0⟩, false)
def S.tLoop (is : List (Vert × Bool)) (es : List Edge) : Nat → List Node → List (Vert × Int) → List Node
  | 0, t, _ => t
  | n + 1, t, pl => if (S.tRound is es t pl).2 then S.tLoop is es n (t ++ [(S.tRound is es t pl).1]) (S.kvPut (S.tRound is es t pl).1.vert t.length pl) else t
def S.todo (is : List (Vert × Bool)) (pl : List (Vert × Int)) : Nat := (is.filter fun p => p.2 && (S.kvLook p.1 pl).isNone).length
theorem tRound_found {is : List (Vert × Bool)} {es : List Edge} {t : List Node} {pl : List (Vert × Int)} (h : (S.tRound is es t pl).2 = true) : ∃ e, e ∈ es ∧ S.skips is pl e = false ∧ (S.tRound is es t pl).1 = S.newNode pl t e := by
  revert h
  unfold S.tRound
  rw [iter_foldl]
  refine foldl_inv (fun s : Node × Bool => s.2 = true → ∃ e, e ∈ es ∧ S.skips is pl e = false ∧ s.1 = S.newNode pl t e) es _ (fun h => by cases h) (fun s e he hs => ?_)
  unfold S.tEdge
  split
  · exact hs
  · rename_i hk
    split
    · exact fun _ => ⟨e, he, by simpa using hk, rfl⟩
    · exact hs
theorem kvLook_put {α : Type} (u v : Vert) (x : α) : ∀ (kv : List (Vert × α)), S.kvLook v (S.kvPut u x kv) = if v = u then some x else S.kvLook v kv
  | [] => by simp [S.kvPut, S.kvLook]
  | p :: l => by
    simp only [S.kvPut]
    by_cases e : u = p.1
    · rw [if_pos e]
      simp only [S.kvLook]
      by_cases e2 : v = u
      · rw [if_pos e2, if_pos e2]
      · rw [if_neg e2, if_neg e2, if_neg (by rw [← e]; exact e2)]
    · rw [if_neg e]
      simp only [S.kvLook, kvLook_put u v x l]
      by_cases e2 : v = p.1
      · rw [if_pos e2, if_neg (fun h => e (by rw [← h, e2])), if_pos e2]
      · rw [if_neg e2, if_neg e2]
theorem kvPut_mem {α : Type} {u : Vert} {x : α} {p : Vert × α} : ∀ {kv : List (Vert × α)}, p ∈ S.kvPut u x kv → p = (u, x) ∨ p ∈ kv
  | [], h => by simp [S.kvPut] at h; exact .inl h
  | q :: l, h => by
    simp only [S.kvPut] at h
    split at h
    · rcases List.mem_cons.1 h with h | h
      · exact .inl h
      · exact .inr (List.mem_cons_of_mem _ h)
    · rcases List.mem_cons.1 h with h | h
      · exact .inr (by rw [h]; exact List.mem_cons_self ..)
      · exact (kvPut_mem h).imp id (List.mem_cons_of_mem _)
theorem filter_lt {α : Type} {p q : α → Bool} : ∀ {l : List α} {x : α}, x ∈ l → (∀ y, q y = true → p y = true) → p x = true → q x = false → (l.filter q).length < (l.filter p).length
  | y :: l, x, hx, h, h1, h2 => by
    have hle : (l.filter q).length ≤ (l.filter p).length := by
      clear hx
      induction l with
      | nil => simp
      | cons z l ih =>
        simp only [List.filter_cons]
        cases hq : q z with
        | true => rw [h z hq]; simp; exact ih
        | false => cases p z <;> simp <;> omega
    simp only [List.filter_cons]
    rcases List.mem_cons.1 hx with rfl | hx
    · rw [h1, h2]; simp; omega
    · have ih := filter_lt hx h h1 h2
      cases hq : q y with
      | true => rw [h y hq]; simp; exact ih
      | false => cases p y <;> simp <;> omega
theorem todo_lt {is : List (Vert × Bool)} {es : List Edge} {t : List Node} {pl : List (Vert × Int)} (h : (S.tRound is es t pl).2 = true) (x : Int) : S.todo is (S.kvPut (S.tRound is es t pl).1.vert x pl) < S.todo is pl := by
  obtain ⟨e, _, h1, h2⟩ := tRound_found h
  rw [h2]
  simp only [S.skips, Bool.or_eq_false_iff, Bool.not_eq_false'] at h1
  obtain ⟨⟨_, h3⟩, h4⟩ := h1
  have hm : (e.dst, true) ∈ is := by
    cases hk : S.kvLook e.dst is with
    | none => rw [hk] at h4; cases h4
    | some b => rw [hk] at h4; simp at h4; subst h4; exact kvLook_mem hk
  refine filter_lt hm (fun p hp => ?_) ?_ ?_
  · simp only [Bool.and_eq_true] at hp ⊢
    refine ⟨hp.1, ?_⟩
    have := hp.2
    rw [kvLook_put] at this
    by_cases e2 : p.1 = (S.newNode pl t e).vert
    · rw [if_pos e2] at this; cases this
    · rw [if_neg e2] at this; exact this
  · cases hk : S.kvLook e.dst pl with
    | none => simp [hk]
    | some _ => rw [hk] at h3; cases h3
  · have : S.kvLook e.dst (S.kvPut (S.newNode pl t e).vert x pl) = some x := by rw [kvLook_put]; exact if_pos rfl
    simp [this]
theorem plOk_mono {pl : List (Vert × Int)} {n m : Nat} (h : S.plOk pl n = true) (hn : n ≤ m) : S.plOk pl m = true := by
  unfold S.plOk at h ⊢
  rw [List.all_eq_true] at h ⊢
  intro p hp
  have := inb_iff.1 (h p hp)
  rw [inb_iff]; omega
theorem plOk_put {pl : List (Vert × Int)} {n : Nat} (h : S.plOk pl n = true) (u : Vert) : S.plOk (S.kvPut u (n : Int) pl) (n + 1) = true := by
  have h' := plOk_mono h (Nat.le_succ n)
  unfold S.plOk at h' ⊢
  rw [List.all_eq_true] at h' ⊢
  intro p hp
  rcases kvPut_mem hp with rfl | hp
  · rw [inb_iff]; simp; omega
  · exact h' p hp
def hd21b : List HK := [.box 2 2 .tmap 30, .mpb 5 24, .row 8 .node 37, .mpi 9 38]
def lc21b : LS := mkLS hd21b (fun ((m : TMap), (is : List (Vert × Bool)), (t : List Node), (pl : List (Vert × Int)), _) => [S.okLen m.edges.length, S.plOk pl t.length, decide (0 < t.length), S.small (t.length + S.todo is pl)])
  fun ((m : TMap), (is : List (Vert × Bool)), (t : List Node), (pl : List (Vert × Int)), _) => .one .ret ⟨[(4, .v (.c (.own 37)))], [(37, .arr .node (S.tLoop is m.edges (S.todo is pl + 1) t pl))]⟩
noncomputable def c21b : Code := sub (bodyOf Try.f21) [1, 1, 1, 1, 1, 1, 0, 0]
theorem lok21b : LoopOK Try.prog 110 c21b lc21b := by
  refine loop_ev (sig := sg21) (lcs := [(14, lc21c)]) (lv := lv21) c21b (fun v => by kernel_rfl) sok21 (one_loop (c := c21c) (by kernel_rfl) lok21c) ?_
  rintro ⟨(m : TMap), (is : List (Vert × Bool)), (t : List Node), (pl : List (Vert × Int)), _⟩ hpre
  have hp : S.okLen m.edges.length = true ∧ S.plOk pl t.length = true ∧ 0 < t.length ∧ S.small (t.length + S.todo is pl) = true := by simpa using hpre
  have hl := hp.1
  have hpl := hp.2.1
  have ht := hp.2.2.1
  have hsz := small_r hp.2.2.2
  clear hp hpre
  refine ⟨fun n u => u.1 = m ∧ u.2.1 = is ∧ S.plOk u.2.2.2.1 (u.2.2.1 : List Node).length = true ∧ 0 < (u.2.2.1 : List Node).length ∧ (u.2.2.1 : List Node).length + n < 1073741824 ∧ S.todo is u.2.2.2.1 ≤ n ∧ S.tLoop is m.edges (n + 1) u.2.2.1 u.2.2.2.1 = S.tLoop is m.edges (S.todo is pl + 1) t pl, S.todo is pl, ⟨rfl, rfl, hpl, ht, hsz, Nat.le_refl _, rfl⟩, ?_⟩
  rintro Q hQ n ⟨(m' : TMap), (is' : List (Vert × Bool)), (t' : List Node), (pl' : List (Vert × Int)), _⟩ hI
  have h1 : m' = m := hI.1
  have h2 : is' = is := hI.2.1
  have hpl' : S.plOk pl' t'.length = true := hI.2.2.1
  have ht' : 0 < t'.length := hI.2.2.2.1
  have hsz' : t'.length + n < 1073741824 := hI.2.2.2.2.1
  have htd : S.todo is pl' ≤ n := hI.2.2.2.2.2.1
  have hs : S.tLoop is m.edges (n + 1) t' pl' = S.tLoop is m.edges (S.todo is pl + 1) t pl := hI.2.2.2.2.2.2
  subst h1 h2
  have hQ1 : Q .ret ⟨[(4, .v (.c (.own 37)))], [(37, .arr .node (S.tLoop is' m'.edges (S.todo is' pl + 1) t pl))]⟩ := hQ
  clear hI hQ
  generalize S.tLoop is' m'.edges (S.todo is' pl + 1) t pl = res at hs hQ1
  suffices hnf : true = true ∧ decide ((↑m'.edges.length : Int) = (↑m'.edges.length : Int)) = true ∧ S.okLen m'.edges.length = true ∧ S.plOk pl' t'.length = true ∧ decide ((0 : Nat) < t'.length) = true ∧ inb (0 : Int) t'.length = true ∧ ((!(S.iter (S.tEdge is' pl' t') m'.edges (zero K.edge) m'.edges.length (0 : Int) ({ vert := { kind := (0 : Int), id := (0 : Int) : Vert }, parent := (0 : Int), cost := (0 : Int), data := (0 : Int) : Node }, false)).snd) = true → Q Exit.ret { s := [((4 : Nat), AV.v (V1.c (C.own (37 : Nat))))], b := [((37 : Nat), Blk.arr K.node t')] : St }) ∧ ((!(S.iter (S.tEdge is' pl' t') m'.edges (zero K.edge) m'.edges.length (0 : Int) ({ vert := { kind := (0 : Int), id := (0 : Int) : Vert }, parent := (0 : Int), cost := (0 : Int), data := (0 : Int) : Node }, false)).snd) = false → roomy t'.length [(S.iter (S.tEdge is' pl' t') m'.edges (zero K.edge) m'.edges.length (0 : Int) ({ vert := { kind := (0 : Int), id := (0 : Int) : Vert }, parent := (0 : Int), cost := (0 : Int), data := (0 : Int) : Node }, false)).fst].length (40 : Nat) = true ∧ ∃ n', n' < n ∧ m' = m' ∧ is' = is' ∧ S.plOk (S.kvPut (S.iter (S.tEdge is' pl' t') m'.edges (zero K.edge) m'.edges.length (0 : Int) ({ vert := { kind := (0 : Int), id := (0 : Int) : Vert }, parent := (0 : Int), cost := (0 : Int), data := (0 : Int) : Node }, false)).fst.vert (↑t'.length : Int) pl') (t' ++ [(S.iter (S.tEdge is' pl' t') m'.edges (zero K.edge) m'.edges.length (0 : Int) ({ vert := { kind := (0 : Int), id := (0 : Int) : Vert }, parent := (0 : Int), cost := (0 : Int), data := (0 : Int) : Node }, false)).fst]).length = true ∧ (0 : Nat) < (t' ++ [(S.iter (S.tEdge is' pl' t') m'.edges (zero K.edge) m'.edges.length (0 : Int) ({ vert := { kind := (0 : Int), id := (0 : Int) : Vert }, parent := (0 : Int), cost := (0 : Int), data := (0 : Int) : Node }, false)).fst]).length ∧ (t' ++ [(S.iter (S.tEdge is' pl' t') m'.edges (zero K.edge) m'.edges.length (0 : Int) ({ vert := { kind := (0 : Int), id := (0 : Int) : Vert }, parent := (0 : Int), cost := (0 : Int), data := (0 : Int) : Node }, false)).fst]).length + n' < (1073741824 : Nat) ∧ S.todo is' (S.kvPut (S.iter (S.tEdge is' pl' t') m'.edges (zero K.edge) m'.edges.length (0 : Int) ({ vert := { kind := (0 : Int), id := (0 : Int) : Vert }, parent := (0 : Int), cost := (0 : Int), data := (0 : Int) : Node }, false)).fst.vert (↑t'.length : Int) pl') ≤ n' ∧ S.tLoop is' m'.edges (n' + (1 : Nat)) (t' ++ [(S.iter (S.tEdge is' pl' t') m'.edges (zero K.edge) m'.edges.length (0 : Int) ({ vert := { kind := (0 : Int), id := (0 : Int) : Vert }, parent := (0 : Int), cost := (0 : Int), data := (0 : Int) : Node }, false)).fst]) (S.kvPut (S.iter (S.tEdge is' pl' t') m'.edges (zero K.edge) m'.edges.length (0 : Int) ({ vert := { kind := (0 : Int), id := (0 : Int) : Vert }, parent := (0 : Int), cost := (0 : Int), data := (0 : Int) : Node }, false)).fst.vert (↑t'.length : Int) pl') = res) by (apply nfto hnf; kernel_rfl)
  have hr := todo_lt (is := is') (es := m'.edges) (t := t') (pl := pl')
  have hput := plOk_put hpl'
  have e0 : S.iter (S.tEdge is' pl' t') m'.edges (zero .edge) m'.edges.length 0 (⟨⟨0, 0⟩, 0, 0, 0⟩, false) = S.tRound is' m'.edges t' pl' := rfl
  rw [e0]
  simp only [S.tLoop] at hs
  refine ⟨rfl, by simp, hl, hpl', decide_eq_true ht', by rw [inb_iff]; omega, fun h => ?_, fun h => ?_⟩
  · have h' : (S.tRound is' m'.edges t' pl').2 = false := by simpa using h
    rw [if_neg (by rw [h']; decide)] at hs
    rw [← hs] at hQ1; exact hQ1
  · have h' : (S.tRound is' m'.edges t' pl').2 = true := by simpa using h
    rw [if_pos h'] at hs
    have hlt := hr h' t'.length
    have hlen : (t' ++ [(S.tRound is' m'.edges t' pl').1]).length = t'.length + 1 := by simp
    refine ⟨by rw [roomy_iff]; simp only [List.length_singleton]; omega, n - 1, by omega, rfl, rfl, by rw [hlen]; exact hput _, by omega, by omega, by omega, ?_⟩
    rw [show n - 1 + 1 = n by omega]
    exact hs
/-! ### the whole -/
def S.tree (m : TMap) (ro : Vert) : List Node :=
  if S.vhas m.verts ro then S.tLoop (S.isMap m.verts) m.edges (S.todo (S.isMap m.verts) (S.kvPut ro 0 []) + 1) [⟨ro, -1, 0, 0⟩] (S.kvPut ro 0 []) else []
theorem isMap_len (vs : List Vert) : (S.isMap vs).length ≤ vs.length := by
  have key : ∀ (xs : List Vert) (kv : List (Vert × Bool)), (xs.foldl S.isStep kv).length ≤ kv.length + xs.length := by
    intro xs
    induction xs with
    | nil => intro kv; simp
    | cons x l ih =>
      intro kv
      rw [List.foldl_cons]
      have h1 := ih (S.isStep kv x)
      have h2 : ∀ (kv : List (Vert × Bool)), (S.kvPut x true kv).length ≤ kv.length + 1 := by
        intro kv
        induction kv with
        | nil => simp [S.kvPut]
        | cons p l ih =>
          simp only [S.kvPut]
          split
          · simp
          · simp only [List.length_cons]; omega
      have h3 := h2 kv
      unfold S.isStep at h1 ⊢
      simp only [List.length_cons]
      omega
  have := key vs []
  unfold S.isMap
  rw [iter_foldl]
  simpa using this
theorem todo_le (is : List (Vert × Bool)) (pl : List (Vert × Int)) : S.todo is pl ≤ is.length := List.length_filter_le _ _
def sm21 : Summary := mkSm [.tmap, .vert] (fun ((m : TMap), (ro : Vert), _) => [S.tiny m.verts.length, S.okLen m.edges.length]) fun ((m : TMap), (ro : Vert), _) => .row .node (S.tree m ro)
theorem loops21 : ∀ c', c' ∈ loopsOf (bodyOf Try.f21) → ∀ lc, look [(5, lc21a), (11, lc21b)] (headId c') = some lc → LoopOK Try.prog 110 c' lc := by
  have h : loopsOf (bodyOf Try.f21) = [c21a, c21b] := by kernel_rfl
  have h1 : headId c21a = 5 := by kernel_rfl
  have h2 : headId c21b = 11 := by kernel_rfl
  rw [h]
  intro c' hc lc hlc
  simp only [List.mem_cons, List.not_mem_nil, or_false] at hc
  rcases hc with rfl | rfl
  · rw [h1] at hlc; obtain rfl := Option.some.inj hlc; exact lok21a
  · rw [h2] at hlc; obtain rfl := Option.some.inj hlc; exact lok21b
theorem ok21 : SumOK Try.prog 21 sm21 := by
  refine sum_ev Try.f21 (lv := lv21) (lcs := [(5, lc21a), (11, lc21b)]) (sig := sg21) (by kernel_rfl) ⟨by kernel_rfl, by kernel_rfl, by kernel_rfl⟩ sok21 loops21 ?_
  rintro ⟨(m : TMap), (ro : Vert), _⟩ hpre
  have hp : S.tiny m.verts.length = true ∧ S.okLen m.edges.length = true := by simpa using hpre
  have ht := tiny_r hp.1
  have h1 := isMap_len m.verts
  have h2 := todo_le (S.isMap m.verts) (S.kvPut ro 0 [])
  suffices hnf : S.okLen m.verts.length = true ∧ ((!S.vhas m.verts ro) = true → some [] = some (S.tree m ro)) ∧ ((!S.vhas m.verts ro) = false → true = true ∧ decide ((↑m.verts.length : Int) = (↑m.verts.length : Int)) = true ∧ S.okLen m.verts.length = true ∧ S.okLen m.edges.length = true ∧ S.plOk (S.kvPut ro (0 : Int) []) [{ vert := ro, parent := (-1 : Int), cost := (0 : Int), data := (0 : Int) : Node }].length = true ∧ decide ((0 : Nat) < [{ vert := ro, parent := (-1 : Int), cost := (0 : Int), data := (0 : Int) : Node }].length) = true ∧ S.small ([{ vert := ro, parent := (-1 : Int), cost := (0 : Int), data := (0 : Int) : Node }].length + S.todo (S.iter S.isStep m.verts (zero K.vert) m.verts.length (0 : Int) []) (S.kvPut ro (0 : Int) [])) = true ∧ some (S.tLoop (S.iter S.isStep m.verts (zero K.vert) m.verts.length (0 : Int) []) m.edges (S.todo (S.iter S.isStep m.verts (zero K.vert) m.verts.length (0 : Int) []) (S.kvPut ro (0 : Int) []) + (1 : Nat)) [{ vert := ro, parent := (-1 : Int), cost := (0 : Int), data := (0 : Int) : Node }] (S.kvPut ro (0 : Int) [])) = some (S.tree m ro)) by (apply nfto hnf; kernel_rfl)
  refine ⟨by simp [S.okLen]; omega, fun h => ?_, fun h => ⟨rfl, by simp, by simp [S.okLen]; omega, hp.2, ?_, rfl, ?_, ?_⟩⟩
  · have h' : S.vhas m.verts ro = false := by simpa using h
    rw [S.tree, if_neg (by rw [h']; decide)]
  · simp [S.kvPut, S.plOk, inb]
  · have : S.todo (S.iter S.isStep m.verts (zero .vert) m.verts.length 0 []) (S.kvPut ro 0 []) ≤ m.verts.length := Nat.le_trans h2 h1
    simp only [S.small, List.length_singleton, decide_eq_true_eq]
    omega
  · have h' : S.vhas m.verts ro = true := by simpa using h
    rw [S.tree, if_pos h']
    rfl
end Go.Proofs.Ytoknhjmcoleejaa
