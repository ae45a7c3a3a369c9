/- Ways that tie: networks come first, then the least. The plain law. No condition. -/
import Derived.Test.YtoknhjmcoleejaaPH
set_option linter.unusedVariables false
set_option linter.unusedSimpArgs false
set_option maxHeartbeats 4000000
namespace Go.Proofs.Ytoknhjmcoleejaa
open Go.RowKit
theorem tree_bst {m : TMap} {ro : Vert} (hc : okCost m.edges) (hm : m.verts.length ≤ 262144) (h : ro ∈ m.verts) : Bst (S.isMap m.verts) m.edges (S.tree m ro) := by
  have hl := tree_len m ro
  unfold S.tree at hl ⊢
  rw [if_pos (vhas_iff.2 h)] at hl ⊢
  have hnd : ∀ i, i < [(⟨ro, -1, 0, 0⟩ : Node)].length → i = 0 := by intro i hi; simp at hi; exact hi
  have I0 : Inv (S.isMap m.verts) m.edges [(⟨ro, -1, 0, 0⟩ : Node)] (S.kvPut ro 0 []) := by
    refine ⟨plOK_root ro _ _ _, ?_, ?_, ?_, ?_, ?_, ?_, ?_⟩
    · intro i hi
      obtain rfl := hnd i hi
      rw [place_eq]
      simp [nd, veq_iff.2, List.findIdx?_cons]
    · intro i h0 hi
      have := hnd i hi
      omega
    · intro i j hij hj
      obtain rfl := hnd j hj
      obtain rfl : i = 0 := by omega
      exact Int.le_refl _
    · intro i hi
      obtain rfl := hnd i hi
      simp [nd]
    · intro e he a b ha hb _ _
      obtain rfl := hnd a ha
      obtain rfl := hnd b hb
      have := hc e he
      omega
    · intro e he a ha _ _ _ i hi
      obtain rfl := hnd a ha
      obtain rfl := hnd i hi
      have := hc e he
      omega
    · intro i h0 hi
      have := hnd i hi
      omega
  exact bst_loop hc _ _ _ (by omega) (by simp) I0 (fun j h0 hj => by have := hnd j hj; omega)
abbrev r1 : Vert := ⟨1, 1⟩
abbrev r50 : Vert := ⟨1, 50⟩
abbrev vN : Vert := ⟨2, 900⟩
abbrev ri (i : Nat) : Vert := ⟨1, (i : Int) + 2⟩
/-- The vertices and the edges. -/
structure Tie (k : Nat) (c : Int) (net : Bool) (m : TMap) : Prop where
  k1 : 1 ≤ k
  k6 : k ≤ 6
  c1 : 1 ≤ c
  c2 : c ≤ 256
  vs : ∀ v, v ∈ m.verts ↔ v = r1 ∨ (∃ i, i < k ∧ v = ri i) ∨ v = r50 ∨ (net = true ∧ v = vN)
  es : ∀ e, e ∈ m.edges → (∃ i, i < k ∧ e.cost = c ∧ ((e.src = r1 ∧ e.dst = ri i) ∨ (e.src = ri i ∧ e.dst = r1) ∨ (e.src = ri i ∧ e.dst = r50 ∧ e.data = (i : Int) + 202) ∨ (e.src = r50 ∧ e.dst = ri i))) ∨
    (net = true ∧ ((e.src = r1 ∧ e.dst = vN ∧ e.cost = 2 * c) ∨ (e.src = vN ∧ e.dst = r1 ∧ e.cost = 0) ∨ (e.src = vN ∧ e.dst = r50 ∧ e.cost = 0 ∧ e.data = 902) ∨ (e.src = r50 ∧ e.dst = vN ∧ e.cost = 1)))
  out : ∀ i, i < k → ∃ d, (⟨r1, ri i, c, d⟩ : Edge) ∈ m.edges
  inn : ∀ i, i < k → ∃ d, (⟨ri i, r50, c, d⟩ : Edge) ∈ m.edges
  netO : net = true → ∃ d, (⟨r1, vN, 2 * c, d⟩ : Edge) ∈ m.edges
  netI : net = true → ∃ d, (⟨vN, r50, 0, d⟩ : Edge) ∈ m.edges
def tD (c : Int) (v : Vert) : Int := if v.kind = 2 then 2 * c else if v.id = 1 then 0 else if v.id = 50 then 2 * c else c
section
variable {k : Nat} {c : Int} {net : Bool} {m : TMap} (T : Tie k c net m)
theorem tD1 (c : Int) : tD c r1 = 0 := by simp [tD]
theorem tD50 (c : Int) : tD c r50 = 2 * c := by simp [tD]
theorem tDN (c : Int) : tD c vN = 2 * c := by simp [tD]
theorem tDi (c : Int) {i : Nat} (h : i < 6) : tD c (ri i) = c := by
  unfold tD
  rw [if_neg (by simp), if_neg (by simp only; omega), if_neg (by simp only; omega)]
include T in
theorem tie_ok : okCost m.edges := by
  intro e he
  have := T.c1
  have := T.c2
  rcases T.es e he with ⟨i, _, h, _⟩ | ⟨_, ⟨_, _, h⟩ | ⟨_, _, h⟩ | ⟨_, _, h, _⟩ | ⟨_, _, h⟩⟩ <;> omega
include T in
theorem tie_pot {e : Edge} (he : e ∈ m.edges) : tD c e.dst ≤ tD c e.src + e.cost := by
  have := T.c1
  have := T.k6
  rcases T.es e he with ⟨i, hi, h, ⟨a, b⟩ | ⟨a, b⟩ | ⟨a, b, _⟩ | ⟨a, b⟩⟩ | ⟨_, ⟨a, b, h⟩ | ⟨a, b, h⟩ | ⟨a, b, h, _⟩ | ⟨a, b, h⟩⟩
  · rw [a, b, h, tD1, tDi c (by omega)]; omega
  · rw [a, b, h, tD1, tDi c (by omega)]; omega
  · rw [a, b, h, tD50, tDi c (by omega)]; omega
  · rw [a, b, h, tD50, tDi c (by omega)]; omega
  · rw [a, b, h, tD1, tDN]; omega
  · rw [a, b, h, tD1, tDN]; omega
  · rw [a, b, h, tD50, tDN]; omega
  · rw [a, b, h, tD50, tDN]; omega
theorem pot_all {m : TMap} {ro : Vert} {t : List Node} (Sh : Short m ro t) (d : Vert → Int) (d0 : d ro ≤ 0) (hd : ∀ e, e ∈ m.edges → d e.dst ≤ d e.src + e.cost) {i : Nat} (hi : i < t.length) : d (nd t i).vert ≤ (nd t i).cost := pot_le Sh d d0 hd i i (Nat.le_refl _) hi
/-- The index of a vertex is one. -/
theorem idx_eq {m : TMap} {ro : Vert} {t : List Node} (Sh : Short m ro t) {i j : Nat} (hi : i < t.length) (hj : j < t.length) (h : (nd t i).vert = (nd t j).vert) : i = j := by
  have a := Sh.dist i hi
  have b := Sh.dist j hj
  rw [h, b] at a
  omega
structure Tied (k : Nat) (c : Int) (net : Bool) (m : TMap) (t : List Node) : Prop where
  sh : Short m r1 t
  bst : Bst (S.isMap m.verts) m.edges t
  cost : ∀ i, i < t.length → (nd t i).cost = tD c (nd t i).vert
  zero : 0 < t.length ∧ (nd t 0).vert = r1
  has : ∀ v, v ∈ m.verts → ∃ i, i < t.length ∧ (nd t i).vert = v
include T in
theorem tie_tied (hm : m.verts.length ≤ 262144) : Tied k c net m (S.tree m r1) := by
  have h1 : r1 ∈ m.verts := (T.vs r1).2 (.inl rfl)
  have Sh := tree_short (tie_ok T) hm h1
  have B := tree_bst (tie_ok T) hm h1
  generalize S.tree m r1 = t at Sh B
  have hc := T.c1
  have hk := T.k6
  obtain ⟨r, hr⟩ := Sh.root
  have z : 0 < t.length ∧ (nd t 0).vert = r1 ∧ (nd t 0).cost = 0 := by rw [hr]; exact ⟨by simp, rfl, rfl⟩
  have hri : ∀ i, i < k → ∃ a, a < t.length ∧ (nd t a).vert = ri i ∧ (nd t a).cost ≤ c := by
    intro i hi
    obtain ⟨d, hd⟩ := T.out i hi
    obtain ⟨b, hb, h2, h3⟩ := Sh.rel _ hd 0 z.1 z.2.1 ((T.vs _).2 (.inr (.inl ⟨i, hi, rfl⟩)))
    refine ⟨b, hb, h2, ?_⟩
    have : (nd t b).cost ≤ (nd t 0).cost + c := h3
    omega
  have h50 : ∃ a, a < t.length ∧ (nd t a).vert = r50 ∧ (nd t a).cost ≤ 2 * c := by
    obtain ⟨a, ha, h2, h3⟩ := hri 0 T.k1
    obtain ⟨d, hd⟩ := T.inn 0 T.k1
    obtain ⟨b, hb, h4, h5⟩ := Sh.rel _ hd a ha h2 ((T.vs _).2 (.inr (.inr (.inl rfl))))
    refine ⟨b, hb, h4, ?_⟩
    have : (nd t b).cost ≤ (nd t a).cost + c := h5
    omega
  have hN : net = true → ∃ a, a < t.length ∧ (nd t a).vert = vN ∧ (nd t a).cost ≤ 2 * c := by
    intro hn
    obtain ⟨d, hd⟩ := T.netO hn
    obtain ⟨b, hb, h4, h5⟩ := Sh.rel _ hd 0 z.1 z.2.1 ((T.vs _).2 (.inr (.inr (.inr ⟨hn, rfl⟩))))
    refine ⟨b, hb, h4, ?_⟩
    have : (nd t b).cost ≤ (nd t 0).cost + 2 * c := h5
    omega
  have up : ∀ v, v ∈ m.verts → ∃ i, i < t.length ∧ (nd t i).vert = v ∧ (nd t i).cost ≤ tD c v := by
    intro v hv
    rcases (T.vs v).1 hv with rfl | ⟨i, hi, rfl⟩ | rfl | ⟨hn, rfl⟩
    · exact ⟨0, z.1, z.2.1, by rw [z.2.2, tD1]; exact Int.le_refl _⟩
    · rw [tDi c (by omega)]; exact hri i hi
    · rw [tD50]; exact h50
    · rw [tDN]; exact hN hn
  refine ⟨Sh, B, fun i hi => ?_, ⟨z.1, z.2.1⟩, fun v hv => by obtain ⟨i, h1, h2, _⟩ := up v hv; exact ⟨i, h1, h2⟩⟩
  have lo := pot_all Sh (tD c) (by rw [tD1]; exact Int.le_refl _) (fun e he => tie_pot T he) hi
  obtain ⟨j, hj, h2, h3⟩ := up _ (Sh.isv i hi)
  obtain rfl := idx_eq Sh hj hi h2
  omega
theorem tie_isV {v : Vert} (h : v ∈ m.verts) : isV (S.isMap m.verts) v := by
  unfold isV
  rw [isMap_look, if_pos h]
  rfl
/-- Where 50 lies, and what is last. -/
theorem tie_r {t : List Node} (T : Tie k c net m) (D : Tied k c net m t) : ∃ a p : Nat, a < t.length ∧ p < t.length ∧ 1 ≤ a ∧ (nd t a).vert = r50 ∧ (nd t a).cost = 2 * c ∧ a + 1 = t.length ∧ (nd t a).parent = p ∧
    (net = false → (nd t p).vert = ri 0 ∧ (nd t a).data = 202 ∧ p = 1) ∧ (net = true → (nd t p).vert = vN ∧ (nd t a).data = 902 ∧ p + 2 = t.length) := by
  have hc := T.c1
  have hk1 := T.k1
  have hk6 := T.k6
  have m50 : r50 ∈ m.verts := (T.vs _).2 (.inr (.inr (.inl rfl)))
  obtain ⟨a, ha, hv⟩ := D.has r50 m50
  have hca : (nd t a).cost = 2 * c := by rw [D.cost a ha, hv, tD50]
  have ha1 : 1 ≤ a := by
    by_cases h : a = 0
    · subst h
      rw [D.zero.2] at hv
      exact absurd (congrArg Vert.id hv) (by decide)
    · omega
  have pa := D.sh.dist a ha
  rw [hv] at pa
  -- who costs as much
  have big : ∀ i, i < t.length → 2 * c ≤ (nd t i).cost → (nd t i).vert = r50 ∨ (net = true ∧ (nd t i).vert = vN) := by
    intro i hi h
    rw [D.cost i hi] at h
    rcases (T.vs _).1 (D.sh.isv i hi) with e | ⟨q, hq, e⟩ | e | e
    · rw [e, tD1] at h; omega
    · rw [e, tDi c (by omega)] at h; omega
    · exact .inl e
    · exact .inr e
  obtain ⟨e, he, p, hp, q1, q2, q3, q4, q5⟩ := D.sh.par a (by omega) ha
  have hpar : pv t (nd t a) = (nd t p).vert := by unfold pv; rw [q1, Int.toNat_natCast]
  have pvb : ∀ (v : Vert) (b : Nat) (x y : Int), pv t ⟨v, b, x, y⟩ = (nd t b).vert := fun v b x y => by unfold pv; simp only [Int.toNat_natCast]
  cases hn : net with
  | false =>
    have last : a + 1 = t.length := by
      have h1 := D.sh.mono a (t.length - 1) (by omega) (by omega)
      rw [hca] at h1
      rcases big (t.length - 1) (by omega) h1 with h | ⟨h, _⟩
      · have := idx_eq D.sh (i := t.length - 1) (j := a) (by omega) ha (by rw [h, hv])
        omega
      · rw [hn] at h; cases h
    have hd : e.dst = r50 := by rw [q3, hv]
    obtain ⟨i, hi, hec, hs⟩ : ∃ i, i < k ∧ e.cost = c ∧ (e.src = ri i ∧ e.data = (i : Int) + 202) := by
      rcases T.es e he with ⟨i, hi, h, ⟨a, b⟩ | ⟨a, b⟩ | ⟨a, b, d⟩ | ⟨a, b⟩⟩ | ⟨h, _⟩
      · rw [b] at hd; have := congrArg Vert.id hd; simp only at this; omega
      · rw [b] at hd; have := congrArg Vert.id hd; simp only at this; omega
      · exact ⟨i, hi, h, a, d⟩
      · rw [b] at hd; have := congrArg Vert.id hd; simp only at this; omega
      · rw [hn] at h; cases h
    obtain ⟨b2, hb2, hv2⟩ := D.has (ri 0) ((T.vs _).2 (.inr (.inl ⟨0, hk1, rfl⟩)))
    have hc2 : (nd t b2).cost = c := by rw [D.cost b2 hb2, hv2, tDi c (by omega)]
    have hlt : b2 < a := by
      by_cases h : b2 < a
      · exact h
      · have := D.sh.mono a b2 (by omega) hb2
        omega
    obtain ⟨d2, hd2⟩ := T.inn 0 hk1
    have nb := D.bst a (by omega) ha _ hd2 b2 hlt hv2 (.inr (by rw [show (⟨ri 0, r50, c, d2⟩ : Edge).dst = r50 from rfl, pa]; exact Int.le_refl _)) (tie_isV m50)
    have i0 : i = 0 := by
      by_cases h : i = 0
      · exact h
      · exfalso
        apply nb
        refine .inr ⟨by rw [hca]; simp only [hc2]; omega, .inr ⟨by rw [hv], ?_⟩⟩
        rw [pvb, hpar, ← q2, hs.1, hv2]
        exact .inr ⟨rfl, by simp only; omega⟩
    subst i0
    have hvp : (nd t p).vert = ri 0 := by rw [← q2, hs.1]
    have hpb : p = b2 := idx_eq D.sh (by omega) hb2 (by rw [hvp, hv2])
    have hp0 : p ≠ 0 := by
      intro h
      rw [h, D.zero.2] at hvp
      exact absurd (congrArg Vert.id hvp) (by decide)
    have hp1 : p = 1 := by
      obtain ⟨d1, hd1⟩ := T.out 0 hk1
      have pp := D.sh.dist p (by omega)
      rw [hvp] at pp
      have nb1 := D.bst 1 (by omega) (by omega) _ hd1 0 (by omega) D.zero.2 (.inr (by rw [show (⟨r1, ri 0, c, d1⟩ : Edge).dst = ri 0 from rfl, pp]; omega)) (tie_isV ((T.vs _).2 (.inr (.inl ⟨0, hk1, rfl⟩))))
      have c00 : (nd t 0).cost = 0 := by rw [D.cost 0 D.zero.1, D.zero.2, tD1]
      have c1' := D.cost 1 (by omega)
      have hle : (nd t 1).cost ≤ c := by
        by_cases h : (nd t 1).cost ≤ c
        · exact h
        · exfalso
          apply nb1
          exact .inl (by simp only [c00]; omega)
      rcases (T.vs _).1 (D.sh.isv 1 (by omega)) with e' | ⟨q, hq, e'⟩ | e' | ⟨h, _⟩
      · have := idx_eq D.sh (i := 1) (j := 0) (by omega) D.zero.1 (by rw [e', D.zero.2])
        omega
      · by_cases hq0 : q = 0
        · subst hq0
          exact idx_eq D.sh (by omega) (by omega) (by rw [hvp, e'])
        · exfalso
          apply nb1
          rw [e', tDi c (by omega)] at c1'
          refine .inr ⟨by simp only [c00]; omega, .inl ⟨?_, ?_⟩⟩
          · rw [e']
            intro h
            have := congrArg Vert.id h
            simp only at this
            omega
          · rw [e']
            exact .inr ⟨rfl, by simp only; omega⟩
      · rw [e', tD50] at c1'; omega
      · rw [hn] at h; cases h
    refine ⟨a, p, ha, by omega, ha1, hv, hca, last, q1, fun _ => ⟨hvp, by rw [q5, hs.2]; rfl, hp1⟩, fun h => by cases h⟩
  | true =>
    have mN : vN ∈ m.verts := (T.vs _).2 (.inr (.inr (.inr ⟨hn, rfl⟩)))
    obtain ⟨b, hb, hbv⟩ := D.has vN mN
    have hcb : (nd t b).cost = 2 * c := by rw [D.cost b hb, hbv, tDN]
    have pb := D.sh.dist b hb
    rw [hbv] at pb
    have hne : a ≠ b := by
      intro h
      rw [h, hbv] at hv
      exact absurd (congrArg Vert.id hv) (by decide)
    have hba : b < a := by
      by_cases h : b < a
      · exact h
      · exfalso
        obtain ⟨d, hd⟩ := T.netO hn
        have nb := D.bst a (by omega) ha _ hd 0 (by omega) D.zero.2 (.inr (by rw [show (⟨r1, vN, 2 * c, d⟩ : Edge).dst = vN from rfl, pb]; omega)) (tie_isV mN)
        apply nb
        have c00 : (nd t 0).cost = 0 := by rw [D.cost 0 D.zero.1, D.zero.2, tD1]
        refine .inr ⟨by simp only [c00]; omega, .inl ⟨?_, ?_⟩⟩
        · rw [hv]
          intro h
          have h' : vN = r50 := h
          exact absurd (congrArg Vert.id h') (by decide)
        · rw [hv]
          exact .inl (by decide : (2 : Int) > 1)
    have last : a + 1 = t.length := by
      have h1 := D.sh.mono a (t.length - 1) (by omega) (by omega)
      rw [hca] at h1
      rcases big (t.length - 1) (by omega) h1 with h | ⟨_, h⟩
      · have := idx_eq D.sh (i := t.length - 1) (j := a) (by omega) ha (by rw [h, hv])
        omega
      · have := idx_eq D.sh (i := t.length - 1) (j := b) (by omega) hb (by rw [h, hbv])
        omega
    have hb2 : b + 2 = t.length := by
      have h1 := D.sh.mono b (t.length - 2) (by omega) (by omega)
      rw [hcb] at h1
      rcases big (t.length - 2) (by omega) h1 with h | ⟨_, h⟩
      · have := idx_eq D.sh (i := t.length - 2) (j := a) (by omega) ha (by rw [h, hv])
        omega
      · have := idx_eq D.sh (i := t.length - 2) (j := b) (by omega) hb (by rw [h, hbv])
        omega
    have hd : e.dst = r50 := by rw [q3, hv]
    have key : e.src = vN ∧ e.data = 902 := by
      rcases T.es e he with ⟨i, hi, h, ⟨x, y⟩ | ⟨x, y⟩ | ⟨x, y, d⟩ | ⟨x, y⟩⟩ | ⟨_, ⟨x, y, _⟩ | ⟨x, y, _⟩ | ⟨x, y, _, z⟩ | ⟨x, y, _⟩⟩
      · rw [y] at hd; have := congrArg Vert.id hd; simp only at this; omega
      · rw [y] at hd; have := congrArg Vert.id hd; simp only at this; omega
      · exfalso
        obtain ⟨d', hd'⟩ := T.netI hn
        have nb := D.bst a (by omega) ha _ hd' b hba hbv (.inr (by rw [show (⟨vN, r50, 0, d'⟩ : Edge).dst = r50 from rfl, pa]; exact Int.le_refl _)) (tie_isV m50)
        apply nb
        refine .inr ⟨by rw [hca]; simp only [hcb]; omega, .inr ⟨by rw [hv], ?_⟩⟩
        rw [pvb, hpar, ← q2, x, hbv]
        exact .inl (by simp only; decide)
      · rw [y] at hd; have := congrArg Vert.id hd; simp only at this; omega
      · rw [y] at hd; exact absurd (congrArg Vert.id hd) (by decide)
      · rw [y] at hd; exact absurd (congrArg Vert.id hd) (by decide)
      · exact ⟨x, z⟩
      · rw [y] at hd; exact absurd (congrArg Vert.id hd) (by decide)
    have hvp : (nd t p).vert = vN := by rw [← q2, key.1]
    have hpb : p = b := idx_eq D.sh (by omega) hb (by rw [hvp, hbv])
    exact ⟨a, p, ha, by omega, ha1, hv, hca, last, q1, (fun h => by cases h), fun _ => ⟨hvp, by rw [q5, key.2], by omega⟩⟩
end
end Go.Proofs.Ytoknhjmcoleejaa
