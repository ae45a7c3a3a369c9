/- Of nodes that could come next the one that is ahead of all others came. The plain law. No condition. -/
import Derived.Test.YtoknhjmcoleejaaPC
set_option linter.unusedVariables false
set_option linter.unusedSimpArgs false
set_option maxHeartbeats 4000000
namespace Go.Proofs.Ytoknhjmcoleejaa
open Go.RowKit
def Ahd (a b : Vert) : Prop := a.kind > b.kind ∨ (a.kind = b.kind ∧ a.id < b.id)
theorem ahd_iff {a b : Vert} : S.ahead a b < 0 ↔ Ahd a b := by
  unfold S.ahead Ahd
  rw [or_two, wrap_cmp]
  unfold S.cmp
  by_cases h1 : a.kind < b.kind
  · simp [h1]; omega
  · by_cases h2 : b.kind < a.kind
    · simp [h1, h2]
    · have : a.kind = b.kind := by omega
      simp [this]
      by_cases h3 : a.id < b.id
      · simp [h3]
      · by_cases h4 : b.id < a.id
        · simp [h3, h4]
        · simp [h3, h4]
def pv (t : List Node) (x : Node) : Vert := (t.getD x.parent.toNat (zero .node)).vert
def Btr (t : List Node) (a b : Node) : Prop := a.cost < b.cost ∨ (a.cost = b.cost ∧ ((a.vert ≠ b.vert ∧ Ahd a.vert b.vert) ∨ (a.vert = b.vert ∧ Ahd (pv t a) (pv t b))))
theorem btr_iff {t : List Node} {a b : Node} : S.better t a b = true ↔ Btr t a b := by
  unfold S.better S.betterC Btr
  rw [decide_eq_true_iff]
  unfold S.cmp
  by_cases h1 : a.cost < b.cost
  · simp [h1]
  · by_cases h2 : b.cost < a.cost
    · simp [h1, h2]; omega
    · have hc : a.cost = b.cost := by omega
      by_cases hv : a.vert = b.vert
      · have : S.veq a.vert b.vert = true := veq_iff.2 hv
        simp only [this]
        simp [h1, h2, hc, hv]
        exact ahd_iff
      · have : S.veq a.vert b.vert = false := by
          cases h : S.veq a.vert b.vert with
          | false => rfl
          | true => exact absurd (veq_iff.1 h) hv
        simp only [this]
        simp [h1, h2, hc, hv]
        exact ahd_iff
theorem ahd_trans {a b c : Vert} (h1 : Ahd a b) (h2 : Ahd b c) : Ahd a c := by
  unfold Ahd at *
  omega
theorem ahd_irr {a : Vert} (h : Ahd a a) : False := by
  unfold Ahd at h
  omega
theorem btr_trans {t : List Node} {a b c : Node} (h1 : Btr t a b) (h2 : Btr t b c) : Btr t a c := by
  unfold Btr at *
  rcases h1 with h1 | ⟨c1, h1⟩
  · rcases h2 with h2 | ⟨c2, _⟩
    · exact .inl (by omega)
    · exact .inl (by omega)
  · rcases h2 with h2 | ⟨c2, h2⟩
    · exact .inl (by omega)
    · refine .inr ⟨by omega, ?_⟩
      rcases h1 with ⟨v1, a1⟩ | ⟨v1, a1⟩
      · rcases h2 with ⟨v2, a2⟩ | ⟨v2, a2⟩
        · have := ahd_trans a1 a2
          exact .inl ⟨fun e => by rw [e] at this; exact ahd_irr this, this⟩
        · rw [← v2]
          exact .inl ⟨v1, a1⟩
      · rcases h2 with ⟨v2, a2⟩ | ⟨v2, a2⟩
        · rw [v1]
          exact .inl ⟨v2, a2⟩
        · exact .inr ⟨v1.trans v2, ahd_trans a1 a2⟩
theorem btr_irr {t : List Node} {a : Node} (h : Btr t a a) : False := by
  unfold Btr at h
  rcases h with h | ⟨_, ⟨h, _⟩ | ⟨_, h⟩⟩
  · omega
  · exact h rfl
  · exact ahd_irr h
/-- Not behind any that could come. -/
theorem round_top (is : List (Vert × Bool)) (t : List Node) (pl : List (Vert × Int)) : ∀ (l : List Edge) (s : Node × Bool),
    (s.2 = true → ∀ y, ¬ Btr t y s.1 → ¬ Btr t y (l.foldl (S.tEdge is pl t) s).1) ∧
    ∀ e, e ∈ l → S.skips is pl e = false → ¬ Btr t (S.newNode pl t e) (l.foldl (S.tEdge is pl t) s).1
  | [], s => ⟨fun _ y h => h, fun e h => by cases h⟩
  | x :: l, s => by
    rw [List.foldl_cons]
    obtain ⟨r1, r2⟩ := round_top is t pl l (S.tEdge is pl t s x)
    have a : s.2 = true → (S.tEdge is pl t s x).2 = true ∧ ∀ y, ¬ Btr t y s.1 → ¬ Btr t y (S.tEdge is pl t s x).1 := by
      intro h
      unfold S.tEdge
      split
      · exact ⟨h, fun y hy => hy⟩
      · split
        · rename_i hb
          rw [h] at hb
          have hb' := btr_iff.1 (show S.better t (S.newNode pl t x) s.1 = true by simpa using hb)
          exact ⟨rfl, fun y hy hy2 => hy (btr_trans hy2 hb')⟩
        · exact ⟨h, fun y hy => hy⟩
    have b : S.skips is pl x = false → (S.tEdge is pl t s x).2 = true ∧ ¬ Btr t (S.newNode pl t x) (S.tEdge is pl t s x).1 := by
      intro h
      unfold S.tEdge
      rw [if_neg (by rw [h]; decide)]
      split
      · exact ⟨rfl, btr_irr⟩
      · rename_i hb
        simp only [Bool.or_eq_true, Bool.not_eq_true', not_or, Bool.not_eq_false, Bool.not_eq_true] at hb
        exact ⟨hb.1, fun h => by rw [btr_iff.2 h] at hb; exact absurd hb.2 (by decide)⟩
    refine ⟨fun h y hy => ?_, fun e he hs => ?_⟩
    · obtain ⟨a1, a2⟩ := a h
      exact r1 a1 y (a2 y hy)
    · rcases List.mem_cons.1 he with rfl | he
      · obtain ⟨b1, b2⟩ := b hs
        exact r1 b1 _ b2
      · exact r2 e he hs
theorem tRound_top {is : List (Vert × Bool)} {es : List Edge} {t : List Node} {pl : List (Vert × Int)} {e : Edge} (he : e ∈ es) (hs : S.skips is pl e = false) : ¬ Btr t (S.newNode pl t e) (S.tRound is es t pl).1 := by
  unfold S.tRound
  rw [iter_foldl]
  exact (round_top is t pl es _).2 e he hs
def Bst (is : List (Vert × Bool)) (es : List Edge) (t : List Node) : Prop :=
  ∀ j, 0 < j → j < t.length → ∀ e, e ∈ es → ∀ a : Nat, a < j → (nd t a).vert = e.src → (S.place t e.dst < 0 ∨ (j : Int) ≤ S.place t e.dst) → isV is e.dst → ¬ Btr t ⟨e.dst, a, (nd t a).cost + e.cost, e.data⟩ (nd t j)
theorem pv_snoc {t : List Node} {x y : Node} {p : Nat} (hp : p < t.length) (hy : y.parent = p) : pv (t ++ [x]) y = pv t y := by
  unfold pv
  rw [hy, Int.toNat_natCast]
  rw [show (t ++ [x]).getD p (zero .node) = t.getD p (zero .node) from getD_snoc t x zn p hp]
theorem btr_snoc {t : List Node} {x y z : Node} {p q : Nat} (hp : p < t.length) (hy : y.parent = p) (hq : q < t.length) (hz : z.parent = q) : Btr (t ++ [x]) y z ↔ Btr t y z := by
  unfold Btr
  rw [pv_snoc hp hy, pv_snoc hq hz]
theorem bst_step {is : List (Vert × Bool)} {es : List Edge} {t : List Node} {pl : List (Vert × Int)} (I : Inv is es t pl) (hc : okCost es) (hl : t.length ≤ 1048576) (hf : (S.tRound is es t pl).2 = true) (B : Bst is es t) : Bst is es (t ++ [(S.tRound is es t pl).1]) := by
  obtain ⟨e0, he0, hs0, hx⟩ := tRound_found hf
  obtain ⟨p, hp, hpv, hd0, hv0⟩ := skip_r I hs0
  obtain ⟨_, hn⟩ := cand I hc hl he0 hp hpv hd0 hv0
  have top : ∀ e, e ∈ es → ∀ a, a < t.length → (nd t a).vert = e.src → S.place t e.dst < 0 → isV is e.dst → ¬ Btr t ⟨e.dst, a, (nd t a).cost + e.cost, e.data⟩ (S.tRound is es t pl).1 := by
    intro e he a ha hs hd hv
    obtain ⟨q1, q2⟩ := cand I hc hl he ha hs hd hv
    have := tRound_top (t := t) he q1
    rw [q2] at this
    exact this
  rw [hn] at hx
  generalize (S.tRound is es t pl).1 = x at hx top ⊢
  have xp : x.parent = p := by rw [hx]
  intro j h0 hj e he a ha hs hd hv
  have hlen : (t ++ [x]).length = t.length + 1 := by simp
  by_cases hjl : j < t.length
  · rw [nd_snoc t x (show a < t.length by omega)] at hs
    rw [nd_snoc t x hjl, nd_snoc t x (show a < t.length by omega)]
    obtain ⟨_, _, q, hq, r1, _⟩ := I.par j h0 hjl
    rw [btr_snoc (p := a) (by omega) rfl (q := q) (by omega) r1]
    refine B j h0 hjl e he a ha hs ?_ hv
    rw [place_append] at hd
    split at hd
    · exact hd
    · exact .inl (by omega)
  · obtain rfl : j = t.length := by omega
    rw [nd_snoc t x ha] at hs ⊢
    rw [nd_last, btr_snoc (p := a) ha rfl (q := p) hp xp]
    refine top e he a ha hs ?_ hv
    rw [place_append] at hd
    split at hd
    · rename_i h
      have := place_lt t e.dst
      omega
    · omega
theorem bst_loop {is : List (Vert × Bool)} {es : List Edge} (hc : okCost es) : ∀ (n : Nat) (t : List Node) (pl : List (Vert × Int)), (S.tLoop is es n t pl).length ≤ 1048576 → t.length ≤ 1048576 → Inv is es t pl → Bst is es t → Bst is es (S.tLoop is es n t pl)
  | 0, t, pl, _, _, _, B => B
  | n + 1, t, pl, hl, ht, I, B => by
    rw [S.tLoop] at hl ⊢
    by_cases hf : (S.tRound is es t pl).2 = true
    · rw [if_pos hf] at hl ⊢
      have hg : (t ++ [(S.tRound is es t pl).1]).length ≤ (S.tLoop is es n (t ++ [(S.tRound is es t pl).1]) (S.kvPut (S.tRound is es t pl).1.vert t.length pl)).length := tLoop_ge ..
      exact bst_loop hc n _ _ hl (by omega) (inv_step I hc ht hf) (bst_step I hc ht hf B)
    · rw [if_neg hf] at hl ⊢
      exact B
end Go.Proofs.Ytoknhjmcoleejaa
