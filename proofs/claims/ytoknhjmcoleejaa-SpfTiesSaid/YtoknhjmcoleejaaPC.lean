/- Trees: parents, shortest ways; maps of routers. The plain law. No condition. -/
import Derived.Test.YtoknhjmcoleejaaPA
import Derived.Test.YtoknhjmcoleejaaPB
set_option linter.unusedVariables false
set_option linter.unusedSimpArgs false
set_option maxHeartbeats 4000000
namespace Go.Proofs.Ytoknhjmcoleejaa
open Go.RowKit
abbrev zn : Node := zero .node
def Par1 (es : List Edge) (t : List Node) (x : Node) (i : Nat) : Prop :=
  ∃ e, e ∈ es ∧ ∃ p : Nat, p < i ∧ x.parent = p ∧ e.src = (t.getD p zn).vert ∧ e.dst = x.vert ∧ x.cost = IntKind.i64.wrap ((t.getD p zn).cost + e.cost) ∧ x.data = e.data
def Par (es : List Edge) (t : List Node) : Prop := ∀ i : Nat, 0 < i → i < t.length → Par1 es t (t.getD i zn) i
theorem getD_snoc {α : Type} (t : List α) (x d : α) (i : Nat) (h : i < t.length) : (t ++ [x]).getD i d = t.getD i d := by
  simp [List.getD_eq_getElem?_getD, List.getElem?_append_left h]
theorem par_snoc {es : List Edge} {t : List Node} {x : Node} (h : Par es t) (hx : Par1 es t x t.length) : Par es (t ++ [x]) := by
  intro i h0 hi
  have mono : ∀ y j, j ≤ t.length → Par1 es t y j → Par1 es (t ++ [x]) y j := by
    rintro y j hj ⟨e, he, p, hp, h1, h2, h3, h4, h5⟩
    exact ⟨e, he, p, hp, h1, by rw [getD_snoc t x zn p (by omega)]; exact h2, h3, by rw [getD_snoc t x zn p (by omega)]; exact h4, h5⟩
  by_cases hl : i < t.length
  · rw [getD_snoc t x zn i hl]
    exact mono _ _ (by omega) (h i h0 hl)
  · have : i = t.length := by simp at hi; omega
    subst this
    have e : (t ++ [x]).getD t.length zn = x := by simp [List.getD_eq_getElem?_getD]
    rw [e]
    exact mono _ _ (by omega) hx
theorem par_loop {is : List (Vert × Bool)} {es : List Edge} : ∀ (n : Nat) (t : List Node) (pl : List (Vert × Int)), PlOK t pl → Par es t → Par es (S.tLoop is es n t pl) ∧ ∃ r, S.tLoop is es n t pl = t ++ r
  | 0, t, pl, _, h => ⟨h, [], by simp [S.tLoop]⟩
  | n + 1, t, pl, hp, h => by
    rw [S.tLoop]
    split
    · rename_i hf
      obtain ⟨e, he, hs, hx⟩ := tRound_found hf
      rw [hx]
      simp only [S.skips, Bool.or_eq_false_iff, Bool.not_eq_false'] at hs
      obtain ⟨⟨h1, h2⟩, h3⟩ := hs
      obtain ⟨a1, a2⟩ := plOK_look hp e.src
      obtain ⟨b1, b2⟩ := plOK_look hp e.dst
      rw [a1] at h1
      rw [b1] at h2
      have hsrc : 0 ≤ S.place t e.src := of_decide_eq_true h1
      have hdst : S.place t e.dst < 0 := by have := of_decide_eq_false h2; omega
      obtain ⟨i, q1, q2, q3, _⟩ := place_nonneg hsrc
      have hpl' := plOK_put hp (x := S.newNode pl t e) hdst
      have hx1 : Par1 es t (S.newNode pl t e) t.length := by
        refine ⟨e, he, i, q2, by simp only [S.newNode]; rw [a2 hsrc, q1], ?_, rfl, ?_, rfl⟩
        · simp [zn, List.getD_eq_getElem?_getD, List.getElem?_eq_getElem q2, q3]
        · simp only [S.newNode]
          rw [a2 hsrc, q1]
          rfl
      obtain ⟨r1, r, r2⟩ := par_loop n _ _ hpl' (par_snoc h hx1)
      exact ⟨r1, S.newNode pl t e :: r, by rw [r2]; simp⟩
    · exact ⟨h, [], by simp⟩
theorem plOK_root (ro : Vert) (a b c : Int) : PlOK [(⟨ro, a, b, c⟩ : Node)] (S.kvPut ro 0 []) := by
  intro v
  rw [kvLook_put, place_eq]
  by_cases h : v = ro
  · subst h
    simp [veq_iff.2, List.findIdx?_cons]
  · have : S.veq ro v = false := by
      cases hv : S.veq ro v with
      | false => rfl
      | true => exact absurd (veq_iff.1 hv).symm h
    simp [h, this, List.findIdx?_cons, S.kvLook]
theorem tree_par {m : TMap} {ro : Vert} (h : ro ∈ m.verts) : Par m.edges (S.tree m ro) ∧ 0 < (S.tree m ro).length ∧ ((S.tree m ro).getD 0 zn).parent = -1 := by
  unfold S.tree
  rw [if_pos (vhas_iff.2 h)]
  obtain ⟨h1, r, h2⟩ := par_loop (is := S.isMap m.verts) (es := m.edges) (S.todo (S.isMap m.verts) (S.kvPut ro 0 []) + 1) [⟨ro, -1, 0, 0⟩] (S.kvPut ro 0 []) (plOK_root ro _ _ _) (fun i h0 hi => by simp at hi; omega)
  refine ⟨h1, ?_⟩
  rw [h2]
  simp
/-! ### shortest ways -/
abbrev nd (t : List Node) (i : Nat) : Node := t.getD i zn
theorem nd_snoc (t : List Node) (x : Node) {i : Nat} (h : i < t.length) : nd (t ++ [x]) i = nd t i := getD_snoc t x zn i h
theorem nd_last (t : List Node) (x : Node) : nd (t ++ [x]) t.length = x := by simp [nd, List.getD_eq_getElem?_getD]
theorem better_le {t : List Node} {a b : Node} (h : S.better t a b = true) : a.cost ≤ b.cost := by
  unfold S.better at h
  have h := of_decide_eq_true h
  unfold S.betterC S.cmp at h
  by_cases h1 : a.cost < b.cost
  · omega
  · by_cases h2 : b.cost < a.cost
    · simp [h1, h2] at h
    · omega
theorem better_ge {t : List Node} {a b : Node} (h : S.better t a b = false) : b.cost ≤ a.cost := by
  unfold S.better at h
  have h := of_decide_eq_false h
  by_cases h1 : a.cost < b.cost
  · exact absurd (by unfold S.betterC S.cmp; simp [h1]) h
  · omega
theorem round_best (is : List (Vert × Bool)) (t : List Node) (pl : List (Vert × Int)) : ∀ (l : List Edge) (s : Node × Bool),
    (s.2 = true → (l.foldl (S.tEdge is pl t) s).2 = true ∧ (l.foldl (S.tEdge is pl t) s).1.cost ≤ s.1.cost) ∧
    ∀ e, e ∈ l → S.skips is pl e = false → (l.foldl (S.tEdge is pl t) s).2 = true ∧ (l.foldl (S.tEdge is pl t) s).1.cost ≤ (S.newNode pl t e).cost
  | [], s => ⟨fun h => ⟨h, Int.le_refl _⟩, fun e h => by cases h⟩
  | x :: l, s => by
    rw [List.foldl_cons]
    obtain ⟨r1, r2⟩ := round_best is t pl l (S.tEdge is pl t s x)
    have a : s.2 = true → (S.tEdge is pl t s x).2 = true ∧ (S.tEdge is pl t s x).1.cost ≤ s.1.cost := by
      intro h
      unfold S.tEdge
      split
      · exact ⟨h, Int.le_refl _⟩
      · split
        · rename_i hb
          rw [h] at hb
          exact ⟨rfl, better_le (by simpa using hb)⟩
        · exact ⟨h, Int.le_refl _⟩
    have b : S.skips is pl x = false → (S.tEdge is pl t s x).2 = true ∧ (S.tEdge is pl t s x).1.cost ≤ (S.newNode pl t x).cost := by
      intro h
      unfold S.tEdge
      rw [if_neg (by rw [h]; decide)]
      split
      · exact ⟨rfl, Int.le_refl _⟩
      · rename_i hb
        simp only [Bool.or_eq_true, Bool.not_eq_true', not_or, Bool.not_eq_false, Bool.not_eq_true] at hb
        exact ⟨hb.1, better_ge hb.2⟩
    refine ⟨fun h => ?_, fun e he hs => ?_⟩
    · obtain ⟨a1, a2⟩ := a h
      obtain ⟨q1, q2⟩ := r1 a1
      exact ⟨q1, by omega⟩
    · rcases List.mem_cons.1 he with rfl | he
      · obtain ⟨b1, b2⟩ := b hs
        obtain ⟨q1, q2⟩ := r1 b1
        exact ⟨q1, by omega⟩
      · exact r2 e he hs
theorem tRound_best {is : List (Vert × Bool)} {es : List Edge} {t : List Node} {pl : List (Vert × Int)} {e : Edge} (he : e ∈ es) (hs : S.skips is pl e = false) : (S.tRound is es t pl).2 = true ∧ (S.tRound is es t pl).1.cost ≤ (S.newNode pl t e).cost := by
  unfold S.tRound
  rw [iter_foldl]
  exact (round_best is t pl es _).2 e he hs
def okCost (es : List Edge) : Prop := ∀ e, e ∈ es → 0 ≤ e.cost ∧ e.cost ≤ 65536
def isV (is : List (Vert × Bool)) (v : Vert) : Prop := (S.kvLook v is).getD false = true
structure Inv (is : List (Vert × Bool)) (es : List Edge) (t : List Node) (pl : List (Vert × Int)) : Prop where
  pl : PlOK t pl
  dist : ∀ i, i < t.length → S.place t (nd t i).vert = i
  par : ∀ i, 0 < i → i < t.length → ∃ e, e ∈ es ∧ ∃ p, p < i ∧ (nd t i).parent = (p : Nat) ∧ e.src = (nd t p).vert ∧ e.dst = (nd t i).vert ∧ (nd t i).cost = (nd t p).cost + e.cost ∧ (nd t i).data = e.data
  mono : ∀ i j, i ≤ j → j < t.length → (nd t i).cost ≤ (nd t j).cost
  bd : ∀ i, i < t.length → 0 ≤ (nd t i).cost ∧ (nd t i).cost ≤ 65536 * (i : Int)
  rel : ∀ e, e ∈ es → ∀ a b, a < t.length → b < t.length → (nd t a).vert = e.src → (nd t b).vert = e.dst → (nd t b).cost ≤ (nd t a).cost + e.cost
  opn : ∀ e, e ∈ es → ∀ a, a < t.length → (nd t a).vert = e.src → S.place t e.dst < 0 → isV is e.dst → ∀ i, i < t.length → (nd t i).cost ≤ (nd t a).cost + e.cost
  isv : ∀ i, 0 < i → i < t.length → isV is (nd t i).vert
theorem place_nd {t : List Node} {v : Vert} (h : 0 ≤ S.place t v) : ∃ i : Nat, S.place t v = i ∧ i < t.length ∧ (nd t i).vert = v := by
  obtain ⟨i, h1, h2, h3, _⟩ := place_nonneg h
  exact ⟨i, h1, h2, by simp [nd, List.getD_eq_getElem?_getD, List.getElem?_eq_getElem h2, h3]⟩
theorem place_of {t : List Node} {i : Nat} (h : i < t.length) : 0 ≤ S.place t (nd t i).vert := by
  by_cases hp : 0 ≤ S.place t (nd t i).vert
  · exact hp
  · have hn : S.place t (nd t i).vert < 0 := by omega
    have e : nd t i = t[i] := by simp [nd, List.getD_eq_getElem?_getD, List.getElem?_eq_getElem h]
    exact absurd rfl (place_neg.1 hn (nd t i) (by rw [e]; exact List.getElem_mem h))
theorem cand {is : List (Vert × Bool)} {es : List Edge} {t : List Node} {pl : List (Vert × Int)} (I : Inv is es t pl) (hc : okCost es) (hl : t.length ≤ 1048576) {e : Edge} (he : e ∈ es) {a : Nat} (ha : a < t.length) (hs : (nd t a).vert = e.src) (hd : S.place t e.dst < 0) (hv : isV is e.dst) :
    S.skips is pl e = false ∧ S.newNode pl t e = ⟨e.dst, a, (nd t a).cost + e.cost, e.data⟩ := by
  obtain ⟨a1, a2⟩ := plOK_look I.pl e.src
  obtain ⟨b1, b2⟩ := plOK_look I.pl e.dst
  have hp : S.place t e.src = a := by rw [← hs]; exact I.dist a ha
  have h1 : (S.kvLook e.src pl).isSome = true := by rw [a1, hp]; exact decide_eq_true (by omega)
  have h2 : (S.kvLook e.dst pl).isSome = false := by rw [b1]; exact decide_eq_false (by omega)
  have h3 : (S.kvLook e.src pl).getD 0 = (a : Int) := by rw [a2 (by omega), hp]
  have hb := I.bd a ha
  have hc' := hc e he
  refine ⟨by simp only [S.skips, h1, h2]; rw [show (S.kvLook e.dst is).getD false = true from hv]; rfl, ?_⟩
  simp only [S.newNode, h3, Int.toNat_natCast]
  have : IntKind.i64.wrap ((nd t a).cost + e.cost) = (nd t a).cost + e.cost := wrap_id (by omega) (by omega)
  rw [show (t.getD a (zero .node)).cost = (nd t a).cost from rfl, this]
theorem skip_r {is : List (Vert × Bool)} {es : List Edge} {t : List Node} {pl : List (Vert × Int)} (I : Inv is es t pl) {e : Edge} (h : S.skips is pl e = false) : ∃ a, a < t.length ∧ (nd t a).vert = e.src ∧ S.place t e.dst < 0 ∧ isV is e.dst := by
  simp only [S.skips, Bool.or_eq_false_iff, Bool.not_eq_false'] at h
  obtain ⟨⟨h1, h2⟩, h3⟩ := h
  rw [(plOK_look I.pl e.src).1] at h1
  rw [(plOK_look I.pl e.dst).1] at h2
  obtain ⟨a, _, ha, hv⟩ := place_nd (of_decide_eq_true h1)
  exact ⟨a, ha, hv, by have := of_decide_eq_false h2; omega, h3⟩
theorem inv_step {is : List (Vert × Bool)} {es : List Edge} {t : List Node} {pl : List (Vert × Int)} (I : Inv is es t pl) (hc : okCost es) (hl : t.length ≤ 1048576) (hf : (S.tRound is es t pl).2 = true) :
    Inv is es (t ++ [(S.tRound is es t pl).1]) (S.kvPut (S.tRound is es t pl).1.vert t.length pl) := by
  obtain ⟨e0, he0, hs0, hx⟩ := tRound_found hf
  obtain ⟨p, hp, hpv, hd0, hv0⟩ := skip_r I hs0
  obtain ⟨_, hn⟩ := cand I hc hl he0 hp hpv hd0 hv0
  have best : ∀ e, e ∈ es → ∀ a, a < t.length → (nd t a).vert = e.src → S.place t e.dst < 0 → isV is e.dst → (S.tRound is es t pl).1.cost ≤ (nd t a).cost + e.cost := by
    intro e he a ha hs hd hv
    obtain ⟨q1, q2⟩ := cand I hc hl he ha hs hd hv
    have := (tRound_best (t := t) he q1).2
    rw [q2] at this
    exact this
  rw [hn] at hx
  generalize (S.tRound is es t pl).1 = x at hx best ⊢
  have xv : x.vert = e0.dst := by rw [hx]
  have xp : x.parent = p := by rw [hx]
  have xc : x.cost = (nd t p).cost + e0.cost := by rw [hx]
  have xd : x.data = e0.data := by rw [hx]
  have hxd : S.place t x.vert < 0 := by rw [xv]; exact hd0
  have low : ∀ i, i < t.length → (nd t i).cost ≤ x.cost := by rw [xc]; exact I.opn e0 he0 p hp hpv hd0 hv0
  have hlen : (t ++ [x]).length = t.length + 1 := by simp
  have c0 := hc e0 he0
  have b0 := I.bd p hp
  have old : ∀ i, i < (t ++ [x]).length → i < t.length ∨ i = t.length := by intro i hi; rw [hlen] at hi; omega
  have pl_old : ∀ v, S.place (t ++ [x]) v < 0 → S.place t v < 0 ∧ v ≠ x.vert := by
    intro v h
    rw [place_append] at h
    split at h
    · omega
    · split at h
      · omega
      · rename_i h1 h2
        exact ⟨by omega, fun e => h2 e.symm⟩
  refine ⟨plOK_put I.pl hxd, ?_, ?_, ?_, ?_, ?_, ?_, ?_⟩
  · intro i hi
    rcases old i hi with h | rfl
    · rw [nd_snoc t x h, place_append, if_pos (place_of h)]
      exact I.dist i h
    · rw [nd_last, place_append, if_neg (by omega), if_pos rfl]
  · intro i h0 hi
    rcases old i hi with h | rfl
    · obtain ⟨e, he, q, hq, r1, r2, r3, r4, r5⟩ := I.par i h0 h
      exact ⟨e, he, q, hq, by rw [nd_snoc t x h]; exact r1, by rw [nd_snoc t x (by omega)]; exact r2, by rw [nd_snoc t x h]; exact r3, by rw [nd_snoc t x h, nd_snoc t x (by omega)]; exact r4, by rw [nd_snoc t x h]; exact r5⟩
    · exact ⟨e0, he0, p, hp, by rw [nd_last]; exact xp, by rw [nd_snoc t x hp, hpv], by rw [nd_last, xv], by rw [nd_last, nd_snoc t x hp]; exact xc, by rw [nd_last]; exact xd⟩
  · intro i j hij hj
    rcases old j hj with h | rfl
    · rw [nd_snoc t x h, nd_snoc t x (by omega)]
      exact I.mono i j hij h
    · rw [nd_last]
      by_cases hi : i < t.length
      · rw [nd_snoc t x hi]; exact low i hi
      · have : i = t.length := by omega
        subst this
        rw [nd_last]
        exact Int.le_refl _
  · intro i hi
    rcases old i hi with h | rfl
    · rw [nd_snoc t x h]; exact I.bd i h
    · rw [nd_last]; omega
  · intro e he a b ha hb hs hd
    rcases old b hb with hb' | rfl
    · rw [nd_snoc t x hb'] at hd ⊢
      rcases old a ha with ha' | rfl
      · rw [nd_snoc t x ha'] at hs ⊢
        exact I.rel e he a b ha' hb' hs hd
      · rw [nd_last] at hs ⊢
        have := low b hb'
        have := hc e he
        omega
    · rw [nd_last] at hd ⊢
      rcases old a ha with ha' | rfl
      · rw [nd_snoc t x ha'] at hs ⊢
        exact best e he a ha' hs (by rw [← hd]; exact hxd) (by rw [← hd, xv]; exact hv0)
      · rw [nd_last]
        have := hc e he
        omega
  · intro e he a ha hs hd hv i hi
    obtain ⟨hd', hne⟩ := pl_old _ hd
    have ca := hc e he
    rcases old a ha with ha' | rfl
    · rw [nd_snoc t x ha'] at hs ⊢
      have hb := best e he a ha' hs hd' hv
      rcases old i hi with hi' | rfl
      · rw [nd_snoc t x hi']; have := low i hi'; omega
      · rw [nd_last]; exact hb
    · rw [nd_last]
      rcases old i hi with hi' | rfl
      · rw [nd_snoc t x hi']; have := low i hi'; omega
      · rw [nd_last]; omega
  · intro i h0 hi
    rcases old i hi with h | rfl
    · rw [nd_snoc t x h]; exact I.isv i h0 h
    · rw [nd_last, xv]; exact hv0
theorem tLoop_ge {is : List (Vert × Bool)} {es : List Edge} : ∀ (n : Nat) (t : List Node) (pl : List (Vert × Int)), t.length ≤ (S.tLoop is es n t pl).length
  | 0, t, pl => by simp [S.tLoop]
  | n + 1, t, pl => by
    rw [S.tLoop]
    split
    · have := tLoop_ge (is := is) (es := es) n (t ++ [(S.tRound is es t pl).1]) (S.kvPut (S.tRound is es t pl).1.vert t.length pl)
      simp only [List.length_append, List.length_singleton] at this
      omega
    · exact Nat.le_refl _
/-- At the end no edge leads on. -/
theorem inv_loop {is : List (Vert × Bool)} {es : List Edge} (hc : okCost es) : ∀ (n : Nat) (t : List Node) (pl : List (Vert × Int)), S.todo is pl < n → (S.tLoop is es n t pl).length ≤ 1048576 → t.length ≤ 1048576 → Inv is es t pl →
    ∃ pl', Inv is es (S.tLoop is es n t pl) pl' ∧ ∀ e, e ∈ es → S.skips is pl' e = true
  | 0, t, pl, h, _, _, _ => by omega
  | n + 1, t, pl, h, hl, ht, I => by
    rw [S.tLoop] at hl ⊢
    by_cases hf : (S.tRound is es t pl).2 = true
    · rw [if_pos hf] at hl ⊢
      have h2 := todo_lt hf (x := t.length)
      have hg : (t ++ [(S.tRound is es t pl).1]).length ≤ (S.tLoop is es n (t ++ [(S.tRound is es t pl).1]) (S.kvPut (S.tRound is es t pl).1.vert t.length pl)).length := tLoop_ge ..
      exact inv_loop hc n _ _ (by omega) hl (by omega) (inv_step I hc ht hf)
    · rw [if_neg hf] at hl ⊢
      refine ⟨pl, I, fun e he => ?_⟩
      cases hs : S.skips is pl e with
      | true => rfl
      | false => exact absurd (tRound_best he hs).1 hf
/-- What the tree of a map is. -/
structure Short (m : TMap) (ro : Vert) (t : List Node) : Prop where
  root : ∃ r, t = ⟨ro, -1, 0, 0⟩ :: r
  dist : ∀ i, i < t.length → S.place t (nd t i).vert = i
  par : ∀ i, 0 < i → i < t.length → ∃ e, e ∈ m.edges ∧ ∃ p, p < i ∧ (nd t i).parent = (p : Nat) ∧ e.src = (nd t p).vert ∧ e.dst = (nd t i).vert ∧ (nd t i).cost = (nd t p).cost + e.cost ∧ (nd t i).data = e.data
  mono : ∀ i j, i ≤ j → j < t.length → (nd t i).cost ≤ (nd t j).cost
  rel : ∀ e, e ∈ m.edges → ∀ a, a < t.length → (nd t a).vert = e.src → e.dst ∈ m.verts → ∃ b, b < t.length ∧ (nd t b).vert = e.dst ∧ (nd t b).cost ≤ (nd t a).cost + e.cost
  isv : ∀ i, i < t.length → (nd t i).vert ∈ m.verts
theorem tree_short {m : TMap} {ro : Vert} (hc : okCost m.edges) (hm : m.verts.length ≤ 262144) (h : ro ∈ m.verts) : Short m ro (S.tree m ro) := by
  have hl := tree_len m ro
  have hiv : ∀ v, isV (S.isMap m.verts) v ↔ v ∈ m.verts := by
    intro v
    unfold isV
    rw [isMap_look]
    split
    · rename_i hv; simp [hv]
    · rename_i hv; simp [hv]
  unfold S.tree at hl ⊢
  rw [if_pos (vhas_iff.2 h)] at hl ⊢
  have hnd : ∀ i, i < [(⟨ro, -1, 0, 0⟩ : Node)].length → i = 0 := by intro i hi; simp at hi; exact hi
  have I0 : Inv (S.isMap m.verts) m.edges [(⟨ro, -1, 0, 0⟩ : Node)] (S.kvPut ro 0 []) := by
    refine ⟨plOK_root ro _ _ _, ?_, ?_, ?_, ?_, ?_, ?_, ?_⟩
    · intro i hi
      obtain rfl := hnd i hi
      rw [place_eq]
      simp [nd, veq_iff.2, List.findIdx?_cons]
    · intro i h0 hi
      have := hnd i hi
      omega
    · intro i j hij hj
      obtain rfl := hnd j hj
      obtain rfl : i = 0 := by omega
      exact Int.le_refl _
    · intro i hi
      obtain rfl := hnd i hi
      simp [nd]
    · intro e he a b ha hb _ _
      obtain rfl := hnd a ha
      obtain rfl := hnd b hb
      have := hc e he
      omega
    · intro e he a ha _ _ _ i hi
      obtain rfl := hnd a ha
      obtain rfl := hnd i hi
      have := hc e he
      omega
    · intro i h0 hi
      have := hnd i hi
      omega
  obtain ⟨pl', I, hend⟩ := inv_loop hc (S.todo (S.isMap m.verts) (S.kvPut ro 0 []) + 1) _ _ (by omega) (by omega) (by simp) I0
  obtain ⟨_, r, hr⟩ := par_loop (is := S.isMap m.verts) (es := m.edges) (S.todo (S.isMap m.verts) (S.kvPut ro 0 []) + 1) [⟨ro, -1, 0, 0⟩] (S.kvPut ro 0 []) (plOK_root ro _ _ _) (fun i h0 hi => by simp at hi; omega)
  refine ⟨⟨r, by rw [hr]; rfl⟩, I.dist, I.par, I.mono, ?_, ?_⟩
  · intro e he a ha hs hd
    by_cases hp : 0 ≤ S.place (S.tLoop (S.isMap m.verts) m.edges (S.todo (S.isMap m.verts) (S.kvPut ro 0 []) + 1) [⟨ro, -1, 0, 0⟩] (S.kvPut ro 0 [])) e.dst
    · obtain ⟨b, _, hb, hbv⟩ := place_nd hp
      exact ⟨b, hb, hbv, I.rel e he a b ha hb hs hbv⟩
    · have := hend e he
      rw [(cand I hc (by omega) he ha hs (by omega) ((hiv _).2 hd)).1] at this
      cases this
  · intro i hi
    by_cases h0 : i = 0
    · subst h0
      rw [hr]
      exact h
    · exact (hiv _).1 (I.isv i (by omega) hi)
/-! ### maps of routers -/
abbrev la (ls : List Lsa) (i : Nat) : Lsa := ls.getD i (zero .lsa)
/-- Routers 1 to n, who tell of links alone. -/
structure Heads (ls : List Lsa) (n : Nat) : Prop where
  len : ls.length = n
  head : ∀ i, i < n → (la ls i).head = ⟨0, 1, (i : Int) + 1, (i : Int) + 1, 0, 0, 0⟩
  rows : ∀ i, i < n → (la ls i).routers = []
  kind : ∀ i, i < n → ∀ k, k ∈ (la ls i).links → k.kind = 1
theorem la_mem {ls : List Lsa} {i : Nat} (h : i < ls.length) : la ls i ∈ ls := by
  have : la ls i = ls[i] := by simp [la, List.getD_eq_getElem?_getD, List.getElem?_eq_getElem h]
  rw [this]
  exact List.getElem_mem h
theorem mem_la {ls : List Lsa} {x : Lsa} (h : x ∈ ls) : ∃ i, i < ls.length ∧ x = la ls i := by
  obtain ⟨i, hi, rfl⟩ := List.getElem_of_mem h
  exact ⟨i, hi, by simp [la, List.getD_eq_getElem?_getD, List.getElem?_eq_getElem hi]⟩
theorem find_some {ls : List Lsa} {v : Vert} {l : Lsa} (hl : l ∈ ls) (ha : l.head.age < 3600) (ho : S.isOf v l.head = true) (hid : l.head.id = v.id) : (S.find ls v).2 = true := by
  unfold S.find
  rw [iter_foldl]
  have keep : ∀ (xs : List Lsa) (s : Lsa × Bool), s.2 = true → (xs.foldl (S.findStep v) s).2 = true := by
    intro xs
    induction xs with
    | nil => intro s h; exact h
    | cons x xs ih =>
      intro s h
      rw [List.foldl_cons]
      refine ih _ ?_
      unfold S.findStep
      split
      · rfl
      · exact h
  have key : ∀ (xs : List Lsa) (s : Lsa × Bool), l ∈ xs → (xs.foldl (S.findStep v) s).2 = true := by
    intro xs
    induction xs with
    | nil => intro s h; cases h
    | cons x xs ih =>
      intro s h
      rw [List.foldl_cons]
      rcases List.mem_cons.1 h with rfl | h
      · refine keep _ _ ?_
        unfold S.findStep
        split
        · rfl
        · rename_i hc
          cases hs : s.2 with
          | true => rfl
          | false =>
            exfalso
            apply hc
            unfold S.findC
            rw [hs, ho, decide_eq_true ha]
            simp [hid]
      · exact ih _ h
  exact key ls _ hl
section
variable {ls : List Lsa} {n : Nat}
theorem heads_find (H : Heads ls n) {i : Nat} (hi : i < n) : S.find ls ⟨1, (i : Int) + 1⟩ = (la ls i, true) := by
  have hl : i < ls.length := by rw [H.len]; exact hi
  have h2 : (S.find ls ⟨1, (i : Int) + 1⟩).2 = true := find_some (la_mem hl) (by rw [H.head i hi]; simp only; omega) (by rw [H.head i hi]; simp [S.isOf]) (by rw [H.head i hi])
  obtain ⟨m1, m2, m3, m4⟩ := find_mem h2
  obtain ⟨j, hj, e⟩ := mem_la m1
  rw [e, H.head j (by rw [← H.len]; exact hj)] at m4
  simp only at m4
  have : j = i := by omega
  subst this
  rw [← e, ← h2]
theorem heads_out (H : Heads ls n) {v : Vert} (h : (S.find ls v).2 = true) : ∃ i, i < n ∧ v = ⟨1, (i : Int) + 1⟩ := by
  obtain ⟨m1, m2, m3, m4⟩ := find_mem h
  obtain ⟨j, hj, e⟩ := mem_la m1
  have hj' : j < n := by rw [← H.len]; exact hj
  rw [e, H.head j hj'] at m3 m4
  simp only [S.isOf, Bool.or_eq_true, Bool.and_eq_true, beq_iff_eq] at m3
  simp only at m4
  refine ⟨j, hj', ?_⟩
  obtain ⟨k, d⟩ := v
  simp only at m3 m4
  rcases m3 with h | h
  · rw [h.1.1, ← m4]
  · omega
theorem heads_verts (H : Heads ls n) {u : Vert} : u ∈ (S.map ls).verts ↔ ∃ i, i < n ∧ u = ⟨1, (i : Int) + 1⟩ := by
  rw [(map_parts ls).1, mem_verts]
  constructor
  · rintro ⟨l, hl, ha, h⟩
    obtain ⟨j, hj, rfl⟩ := mem_la hl
    have hj' : j < n := by rw [← H.len]; exact hj
    rw [H.head j hj'] at h
    simp only at h
    rcases h with h | h
    · exact ⟨j, hj', h.2.2⟩
    · exact absurd h.1 (by decide)
  · rintro ⟨i, hi, rfl⟩
    refine ⟨la ls i, la_mem (by rw [H.len]; exact hi), ?_⟩
    unfold Tells
    rw [H.head i hi]
    exact ⟨(by decide : (0 : Int) < 3600), .inl ⟨rfl, rfl, rfl⟩⟩
theorem back_iff {l : List Link} {kind id : Int} : S.isBack l kind id = true ↔ ∃ k, k ∈ l ∧ k.kind = kind ∧ k.id = id := by
  unfold S.isBack S.backAt
  have := scan_any (fun k : Link => k.kind == kind && k.id == id) l (zero .link)
  have e : S.scan (S.linkIs l kind id) l.length 0 = S.scan (fun i => (fun k : Link => k.kind == kind && k.id == id) (l.getD i.toNat (zero .link))) l.length 0 := rfl
  rw [e, this, List.any_eq_true]
  simp
/-- The edges of a router. -/
theorem heads_from (H : Heads ls n) {i : Nat} (hi : i < n) {e : Edge} : e ∈ S.from ls ⟨1, (i : Int) + 1⟩ ↔ ∃ k, k ∈ (la ls i).links ∧ ∃ j, j < n ∧ k.id = (j : Int) + 1 ∧ (∃ k', k' ∈ (la ls j).links ∧ k'.id = (i : Int) + 1) ∧ e = ⟨⟨1, (i : Int) + 1⟩, ⟨1, (j : Int) + 1⟩, k.cost, k.data⟩ := by
  unfold S.from S.from1
  rw [heads_find H hi]
  simp only [H.rows i hi, List.length_nil, S.iterI]
  rw [iter_foldl]
  have key : ∀ (xs : List Link) (o : List Edge), (∀ k, k ∈ xs → k.kind = 1) → (e ∈ xs.foldl (S.linkStep ls ⟨1, (i : Int) + 1⟩) o ↔ e ∈ o ∨ ∃ k, k ∈ xs ∧ ∃ j, j < n ∧ k.id = (j : Int) + 1 ∧ (∃ k', k' ∈ (la ls j).links ∧ k'.id = (i : Int) + 1) ∧ e = ⟨⟨1, (i : Int) + 1⟩, ⟨1, (j : Int) + 1⟩, k.cost, k.data⟩) := by
    intro xs
    induction xs with
    | nil => intro o _; simp
    | cons x xs ih =>
      intro o hk
      rw [List.foldl_cons, ih _ (fun k h => hk k (List.mem_cons_of_mem _ h))]
      have hx := hk x (List.mem_cons_self ..)
      have step : e ∈ S.linkStep ls ⟨1, (i : Int) + 1⟩ o x ↔ e ∈ o ∨ ∃ j, j < n ∧ x.id = (j : Int) + 1 ∧ (∃ k', k' ∈ (la ls j).links ∧ k'.id = (i : Int) + 1) ∧ e = ⟨⟨1, (i : Int) + 1⟩, ⟨1, (j : Int) + 1⟩, x.cost, x.data⟩ := by
        unfold S.linkStep S.link2 S.link1
        rw [if_neg (by simp [hx]), if_pos (by simp [hx])]
        split
        · rename_i hc
          rw [Bool.and_eq_true] at hc
          obtain ⟨j, hj, ej⟩ := heads_out H hc.1
          have eid : x.id = (j : Int) + 1 := congrArg Vert.id ej
          have hc2 := hc.2
          rw [eid, heads_find H hj] at hc2
          obtain ⟨k', q1, _, q3⟩ := back_iff.1 hc2
          rw [List.mem_append, List.mem_singleton, eid]
          constructor
          · rintro (h | h)
            · exact .inl h
            · exact .inr ⟨j, hj, rfl, ⟨k', q1, q3⟩, h⟩
          · rintro (h | ⟨j', hj', e', _, h⟩)
            · exact .inl h
            · obtain rfl : j' = j := by omega
              exact .inr h
        · rename_i hc
          constructor
          · exact .inl
          · rintro (h | ⟨j, hj, ej, ⟨k', q1, q2⟩, h⟩)
            · exact h
            · exfalso
              apply hc
              rw [ej, heads_find H hj, Bool.and_eq_true]
              exact ⟨rfl, back_iff.2 ⟨k', q1, H.kind j hj k' q1, q2⟩⟩
      rw [step]
      constructor
      · rintro ((h | h) | ⟨k, hk1, h⟩)
        · exact .inl h
        · exact .inr ⟨x, List.mem_cons_self .., h⟩
        · exact .inr ⟨k, List.mem_cons_of_mem _ hk1, h⟩
      · rintro (h | ⟨k, hk1, h⟩)
        · exact .inl (.inl h)
        · rcases List.mem_cons.1 hk1 with rfl | hk1
          · exact .inl (.inr h)
          · exact .inr ⟨k, hk1, h⟩
  rw [key _ _ (H.kind i hi)]
  simp
theorem heads_edges (H : Heads ls n) {e : Edge} : e ∈ (S.map ls).edges ↔ ∃ i, i < n ∧ ∃ k, k ∈ (la ls i).links ∧ ∃ j, j < n ∧ k.id = (j : Int) + 1 ∧ (∃ k', k' ∈ (la ls j).links ∧ k'.id = (i : Int) + 1) ∧ e = ⟨⟨1, (i : Int) + 1⟩, ⟨1, (j : Int) + 1⟩, k.cost, k.data⟩ := by
  rw [(map_parts ls).2, List.mem_flatMap]
  constructor
  · rintro ⟨v, hv, he⟩
    rw [← (map_parts ls).1] at hv
    obtain ⟨i, hi, rfl⟩ := (heads_verts H).1 hv
    exact ⟨i, hi, (heads_from H hi).1 he⟩
  · rintro ⟨i, hi, h⟩
    refine ⟨⟨1, (i : Int) + 1⟩, ?_, (heads_from H hi).2 h⟩
    rw [← (map_parts ls).1]
    exact (heads_verts H).2 ⟨i, hi, rfl⟩
end
/-! ### distances -/
theorem pot_le {m : TMap} {ro : Vert} {t : List Node} (Sh : Short m ro t) (d : Vert → Int) (d0 : d ro ≤ 0) (hd : ∀ e, e ∈ m.edges → d e.dst ≤ d e.src + e.cost) : ∀ (q i : Nat), i ≤ q → i < t.length → d (nd t i).vert ≤ (nd t i).cost
  | q, i, hq, hi => by
    by_cases h0 : i = 0
    · subst h0
      obtain ⟨r, hr⟩ := Sh.root
      rw [hr]
      exact d0
    · obtain ⟨e, he, p, hp, _, h2, h3, h4, _⟩ := Sh.par i (by omega) hi
      obtain ⟨q', rfl⟩ : ∃ q', q = q' + 1 := ⟨q - 1, by omega⟩
      have ih := pot_le Sh d d0 hd q' p (by omega) (by omega)
      have := hd e he
      rw [h2, h3] at this
      omega
/-- Distinct members of a list are not more than it has. -/
theorem nodup_len {α : Type} [DecidableEq α] : ∀ (l l' : List α), l.Nodup → (∀ x, x ∈ l → x ∈ l') → l.length ≤ l'.length
  | [], _, _, _ => Nat.zero_le _
  | x :: l, l', hn, hs => by
    rw [List.nodup_cons] at hn
    have hx := hs x (List.mem_cons_self ..)
    have := nodup_len l (l'.erase x) hn.2 (fun y hy => by
      have hne : y ≠ x := fun e => hn.1 (e ▸ hy)
      exact (List.mem_erase_of_ne hne).2 (hs y (List.mem_cons_of_mem _ hy)))
    rw [List.length_erase_of_mem hx] at this
    have hpos := List.length_pos_of_mem hx
    simp only [List.length_cons]
    omega
theorem short_nodup {m : TMap} {ro : Vert} {t : List Node} (Sh : Short m ro t) : (t.map (·.vert)).Nodup := by
  rw [List.nodup_iff_pairwise_ne, List.pairwise_iff_getElem]
  intro i j hi hj hij e
  simp only [List.length_map] at hi hj
  simp only [List.getElem_map] at e
  have e1 : nd t i = t[i] := by simp [nd, List.getD_eq_getElem?_getD, List.getElem?_eq_getElem hi]
  have e2 : nd t j = t[j] := by simp [nd, List.getD_eq_getElem?_getD, List.getElem?_eq_getElem hj]
  have h1 := Sh.dist i hi
  have h2 := Sh.dist j hj
  rw [e1, e] at h1
  rw [e2] at h2
  omega
end Go.Proofs.Ytoknhjmcoleejaa
