/- Each node of a tree but the root has a parent ahead of it, and an edge from there. The plain law. No condition. -/
import Derived.Test.YtoknhjmcoleejaaPA
set_option linter.unusedVariables false
set_option linter.unusedSimpArgs false
set_option maxHeartbeats 4000000
namespace Go.Proofs.Ytoknhjmcoleejaa
open Go.RowKit
abbrev zn : Node := zero .node
def Par1 (es : List Edge) (t : List Node) (x : Node) (i : Nat) : Prop :=
  ∃ e, e ∈ es ∧ ∃ p : Nat, p < i ∧ x.parent = p ∧ e.src = (t.getD p zn).vert ∧ e.dst = x.vert ∧ x.cost = IntKind.i64.wrap ((t.getD p zn).cost + e.cost) ∧ x.data = e.data
def Par (es : List Edge) (t : List Node) : Prop := ∀ i : Nat, 0 < i → i < t.length → Par1 es t (t.getD i zn) i
theorem getD_snoc {α : Type} (t : List α) (x d : α) (i : Nat) (h : i < t.length) : (t ++ [x]).getD i d = t.getD i d := by
  simp [List.getD_eq_getElem?_getD, List.getElem?_append_left h]
theorem par_snoc {es : List Edge} {t : List Node} {x : Node} (h : Par es t) (hx : Par1 es t x t.length) : Par es (t ++ [x]) := by
  intro i h0 hi
  have mono : ∀ y j, j ≤ t.length → Par1 es t y j → Par1 es (t ++ [x]) y j := by
    rintro y j hj ⟨e, he, p, hp, h1, h2, h3, h4, h5⟩
    exact ⟨e, he, p, hp, h1, by rw [getD_snoc t x zn p (by omega)]; exact h2, h3, by rw [getD_snoc t x zn p (by omega)]; exact h4, h5⟩
  by_cases hl : i < t.length
  · rw [getD_snoc t x zn i hl]
    exact mono _ _ (by omega) (h i h0 hl)
  · have : i = t.length := by simp at hi; omega
    subst this
    have e : (t ++ [x]).getD t.length zn = x := by simp [List.getD_eq_getElem?_getD]
    rw [e]
    exact mono _ _ (by omega) hx
theorem par_loop {is : List (Vert × Bool)} {es : List Edge} : ∀ (n : Nat) (t : List Node) (pl : List (Vert × Int)), PlOK t pl → Par es t → Par es (S.tLoop is es n t pl) ∧ ∃ r, S.tLoop is es n t pl = t ++ r
  | 0, t, pl, _, h => ⟨h, [], by simp [S.tLoop]⟩
  | n + 1, t, pl, hp, h => by
    rw [S.tLoop]
    split
    · rename_i hf
      obtain ⟨e, he, hs, hx⟩ := tRound_found hf
      rw [hx]
      simp only [S.skips, Bool.or_eq_false_iff, Bool.not_eq_false'] at hs
      obtain ⟨⟨h1, h2⟩, h3⟩ := hs
      obtain ⟨a1, a2⟩ := plOK_look hp e.src
      obtain ⟨b1, b2⟩ := plOK_look hp e.dst
      rw [a1] at h1
      rw [b1] at h2
      have hsrc : 0 ≤ S.place t e.src := of_decide_eq_true h1
      have hdst : S.place t e.dst < 0 := by have := of_decide_eq_false h2; omega
      obtain ⟨i, q1, q2, q3, _⟩ := place_nonneg hsrc
      have hpl' := plOK_put hp (x := S.newNode pl t e) hdst
      have hx1 : Par1 es t (S.newNode pl t e) t.length := by
        refine ⟨e, he, i, q2, by simp only [S.newNode]; rw [a2 hsrc, q1], ?_, rfl, ?_, rfl⟩
        · simp [zn, List.getD_eq_getElem?_getD, List.getElem?_eq_getElem q2, q3]
        · simp only [S.newNode]
          rw [a2 hsrc, q1]
          rfl
      obtain ⟨r1, r, r2⟩ := par_loop n _ _ hpl' (par_snoc h hx1)
      exact ⟨r1, S.newNode pl t e :: r, by rw [r2]; simp⟩
    · exact ⟨h, [], by simp⟩
theorem plOK_root (ro : Vert) (a b c : Int) : PlOK [(⟨ro, a, b, c⟩ : Node)] (S.kvPut ro 0 []) := by
  intro v
  rw [kvLook_put, place_eq]
  by_cases h : v = ro
  · subst h
    simp [veq_iff.2, List.findIdx?_cons]
  · have : S.veq ro v = false := by
      cases hv : S.veq ro v with
      | false => rfl
      | true => exact absurd (veq_iff.1 hv).symm h
    simp [h, this, List.findIdx?_cons, S.kvLook]
theorem tree_par {m : TMap} {ro : Vert} (h : ro ∈ m.verts) : Par m.edges (S.tree m ro) ∧ 0 < (S.tree m ro).length ∧ ((S.tree m ro).getD 0 zn).parent = -1 := by
  unfold S.tree
  rw [if_pos (vhas_iff.2 h)]
  obtain ⟨h1, r, h2⟩ := par_loop (is := S.isMap m.verts) (es := m.edges) (S.todo (S.isMap m.verts) (S.kvPut ro 0 []) + 1) [⟨ro, -1, 0, 0⟩] (S.kvPut ro 0 []) (plOK_root ro _ _ _) (fun i h0 hi => by simp at hi; omega)
  refine ⟨h1, ?_⟩
  rw [h2]
  simp
end Go.Proofs.Ytoknhjmcoleejaa
