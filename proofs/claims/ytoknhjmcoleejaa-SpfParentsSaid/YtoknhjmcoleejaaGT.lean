/- Graph, the whole. No condition. -/
import Derived.Test.YtoknhjmcoleejaaFC
import Derived.Test.YtoknhjmcoleejaaGS
set_option linter.unusedVariables false
set_option linter.unusedSimpArgs false
set_option maxHeartbeats 4000000
namespace Go.Proofs.Ytoknhjmcoleejaa
open Go.RowKit
def S.gk (n : Int) : Int := IntKind.i64.wrap (1 + (IntKind.i64.wrap n).tmod 6)
theorem gk_r {n : Int} (h0 : 0 ≤ n) (h1 : n ≤ 255) : 1 ≤ S.gk n ∧ S.gk n ≤ 6 := by
  unfold S.gk
  rw [wrap_id (x := n) (by omega) (by omega)]
  have a := Int.tmod_nonneg (a := n) 6 (by omega)
  have b := Int.tmod_lt_of_pos n (b := 6) (by omega)
  rw [wrap_id (by omega) (by omega)]
  omega
def S.g1 (k : Int) : List Lsa := S.iterI S.rtrStep (k.toNat + 1 - 1) 1 []
def S.g2 (ps : List UInt8) (one : List Bool) (k : Int) : List Lsa × Int := S.pairs ps one k 12 0 (S.g1 k, 0)
def S.g3 (ps ns : List UInt8) (one : List Bool) (k : Int) : List Lsa × Int := S.iterI (S.netOne ns one k) (min ns.length 8) 0 (S.g2 ps one k)
def S.graph (n : Int) (ps ns : List UInt8) (one : List Bool) : List Lsa := S.iterI S.stStep (S.gk n).toNat 0 (S.g3 ps ns one (S.gk n)).1
theorem rtr_inv : ∀ (n : Nat) (i : Int) (o : List Lsa), S.gOk o 0 = true → (S.iterI S.rtrStep n i o).length = o.length + n ∧ S.gOk (S.iterI S.rtrStep n i o) 0 = true
  | 0, i, o, h => ⟨rfl, h⟩
  | n + 1, i, o, h => by
    have h' : S.gOk (S.rtrStep i o) 0 = true := by
      simp only [S.gOk, List.all_eq_true, Bool.and_eq_true, decide_eq_true_eq] at h ⊢
      intro x hx
      simp only [S.rtrStep, List.mem_append, List.mem_singleton] at hx
      rcases hx with hx | rfl
      · exact h x hx
      · exact ⟨Int.le_refl 0, Nat.zero_le 6⟩
    obtain ⟨h1, h2⟩ := rtr_inv n (i + 1) (S.rtrStep i o) h'
    refine ⟨?_, h2⟩
    simp only [S.iterI]
    rw [h1]
    simp only [S.rtrStep, List.length_append, List.length_singleton]
    omega
theorem g1_r {k : Int} (h : 1 ≤ k) : ((S.g1 k).length : Int) = k ∧ S.gOk (S.g1 k) 0 = true := by
  obtain ⟨h1, h2⟩ := rtr_inv (k.toNat + 1 - 1) 1 [] rfl
  refine ⟨?_, h2⟩
  unfold S.g1
  rw [h1]
  simp only [List.length_nil]
  omega
theorem pairs_inv {ps : List UInt8} {one : List Bool} {k : Int} {L : Nat} (hk : 1 ≤ k) (hL : k ≤ (L : Int)) : ∀ (n : Nat) (i : Int) (s : List Lsa × Int), 0 ≤ i → i ≤ 38 → s.1.length = L → S.gOk s.1 i = true → 0 ≤ s.2 → s.2 ≤ i →
    (S.pairs ps one k n i s).1.length = L ∧ S.gOk (S.pairs ps one k n i s).1 40 = true ∧ 0 ≤ (S.pairs ps one k n i s).2 ∧ (S.pairs ps one k n i s).2 ≤ 40
  | 0, i, s, h0, h8, h1, h2, h3, h4 => ⟨h1, gOk_mono h2 (by omega), h3, by simp only [S.pairs]; omega⟩
  | n + 1, i, s, h0, h8, h1, h2, h3, h4 => by
    rw [S.pairs]
    split
    · rename_i hc
      simp only [Bool.and_eq_true, decide_eq_true_eq] at hc
      have ha := pA_in ps i hk hL
      have hb := pA_in ps (i + 1) hk hL
      have hwt : IntKind.i64.wrap (s.2 + 1) = s.2 + 1 := wrap_id (by omega) (by omega)
      have g1 := gOk_add (l := S.pL1 ps k i) h2 (a := S.pA ps k i) (by rw [h1]; exact ha)
      have l1 := addLink_len s.1 (S.pA ps k i) (S.pL1 ps k i)
      have g2 := gOk_add (l := S.pL2 ps k i) g1 (a := S.pA ps k (i + 1)) (by rw [l1, h1]; exact hb)
      have l2 := addLink_len (S.addLink s.1 (S.pA ps k i) (S.pL1 ps k i)) (S.pA ps k (i + 1)) (S.pL2 ps k i)
      have key : (S.pairStep ps one k i s).1.length = L ∧ S.gOk (S.pairStep ps one k i s).1 (i + 3) = true ∧ 0 ≤ (S.pairStep ps one k i s).2 ∧ (S.pairStep ps one k i s).2 ≤ i + 3 := by
        unfold S.pairStep
        split
        · exact ⟨h1, gOk_mono h2 (by omega), h3, by omega⟩
        · simp only [hwt]
          split
          · exact ⟨by rw [l2, l1, h1], gOk_mono g2 (by omega), by omega, by omega⟩
          · exact ⟨by rw [l1, h1], gOk_mono g1 (by omega), by omega, by omega⟩
      exact pairs_inv hk hL n (i + 3) _ (by omega) (by omega) key.1 key.2.1 key.2.2.1 key.2.2.2
    · exact ⟨h1, gOk_mono h2 (by omega), h3, by omega⟩
theorem g2_r {ps : List UInt8} {one : List Bool} {k : Int} (hk : 1 ≤ k) : ((S.g2 ps one k).1.length : Int) = k ∧ S.gOk (S.g2 ps one k).1 40 = true ∧ 0 ≤ (S.g2 ps one k).2 ∧ (S.g2 ps one k).2 ≤ 40 := by
  obtain ⟨h1, h2⟩ := g1_r hk
  obtain ⟨a, b, c, d⟩ := pairs_inv (ps := ps) (one := one) (k := k) (L := (S.g1 k).length) hk (by omega) 12 0 (S.g1 k, 0) (by decide) (by decide) rfl h2 (by exact Int.le_refl 0) (by exact Int.le_refl 0)
  exact ⟨by unfold S.g2; rw [a]; exact h1, b, c, d⟩
theorem nets_inv {ns : List UInt8} {one : List Bool} {k : Int} (hk : 1 ≤ k) (hk6 : k ≤ 6) : ∀ (n : Nat) (i : Int) (s : List Lsa × Int), 0 ≤ i → i + n ≤ 8 → k ≤ (s.1.length : Int) → S.gOk s.1 (40 + 6 * i) = true → 0 ≤ s.2 → s.2 ≤ 40 + 6 * i →
    (S.iterI (S.netOne ns one k) n i s).1.length = s.1.length + n ∧ S.gOk (S.iterI (S.netOne ns one k) n i s).1 (40 + 6 * (i + n)) = true
  | 0, i, s, h0, h8, h1, h2, h3, h4 => by
    simp only [S.iterI, Int.natCast_zero, Int.add_zero]
    exact ⟨by simp, h2⟩
  | n + 1, i, s, h0, h8, h1, h2, h3, h4 => by
    obtain ⟨g0, g1, g2, g3, g4⟩ := net_one (ns := ns) (one := one) (k := k) (i := i) (s := s) (by rw [inb_iff]; omega) hk hk6 h1 h2 h3 h4
    obtain ⟨r1, r2⟩ := nets_inv (ns := ns) (one := one) hk hk6 n (i + 1) (S.netOne ns one k i s) (by omega) (by omega) (by omega) g2 g3 g4
    simp only [S.iterI]
    rw [show i + ((n + 1 : Nat) : Int) = i + 1 + n by omega]
    exact ⟨by rw [r1, g1]; omega, r2⟩
theorem g3_r {ps ns : List UInt8} {one : List Bool} {k : Int} (hk : 1 ≤ k) (hk6 : k ≤ 6) : k ≤ ((S.g3 ps ns one k).1.length : Int) ∧ (S.g3 ps ns one k).1.length ≤ 14 ∧ S.gOk (S.g3 ps ns one k).1 94 = true := by
  obtain ⟨a, b, c, d⟩ := g2_r (ps := ps) (one := one) hk
  obtain ⟨r1, r2⟩ := nets_inv (ns := ns) (one := one) hk hk6 (min ns.length 8) 0 (S.g2 ps one k) (by omega) (by omega) (by omega) (by exact b) c (by omega)
  unfold S.g3
  refine ⟨by rw [r1]; omega, by rw [r1]; omega, gOk_mono r2 (by omega)⟩
theorem st_inv : ∀ (n : Nat) (r : Int) (o : List Lsa), 0 ≤ r → r + n ≤ (o.length : Int) → S.gOk o (94 + r) = true → (S.iterI S.stStep n r o).length = o.length ∧ S.gOk (S.iterI S.stStep n r o) (94 + (r + n)) = true
  | 0, r, o, h0, h1, h2 => by
    simp only [S.iterI, Int.natCast_zero, Int.add_zero]
    exact ⟨by simp, h2⟩
  | n + 1, r, o, h0, h1, h2 => by
    have l1 := addLink_len o r (S.stubL r)
    have g1 := gOk_add (l := S.stubL r) h2 (a := r) (by rw [inb_iff]; omega)
    obtain ⟨r1, r2⟩ := st_inv n (r + 1) (S.stStep r o) (by omega) (by unfold S.stStep; rw [l1]; omega) (by rw [show 94 + (r + 1) = 94 + r + 1 by omega]; exact g1)
    simp only [S.iterI]
    rw [show r + ((n + 1 : Nat) : Int) = r + 1 + n by omega]
    exact ⟨by rw [r1]; exact l1, r2⟩
theorem graph_r {n : Int} (h0 : 0 ≤ n) (h1 : n ≤ 255) (ps ns : List UInt8) (one : List Bool) : (S.graph n ps ns one).length ≤ 14 ∧ S.gOk (S.graph n ps ns one) 100 = true := by
  obtain ⟨hk, hk6⟩ := gk_r h0 h1
  obtain ⟨a, b, c⟩ := g3_r (ps := ps) (ns := ns) (one := one) hk hk6
  obtain ⟨d, e⟩ := st_inv (S.gk n).toNat 0 (S.g3 ps ns one (S.gk n)).1 (by decide) (by omega) c
  unfold S.graph
  exact ⟨by rw [d]; exact b, gOk_mono e (by omega)⟩
theorem loops19 : ∀ c', c' ∈ loopsOf (bodyOf Try.f19) → ∀ lc, look [(4, lc19a), (9, lc19b), (19, lc19n), (32, lc19d)] (headId c') = some lc → LoopOK Try.prog 235 c' lc := by
  have h : loopsOf (bodyOf Try.f19) = [c19a, c19b, c19n, c19d] := by kernel_rfl
  have h1 : headId c19a = 4 := by kernel_rfl
  have h2 : headId c19b = 9 := by kernel_rfl
  have h3 : headId c19n = 19 := by kernel_rfl
  have h4 : headId c19d = 32 := by kernel_rfl
  rw [h]
  intro c' hc lc hlc
  simp only [List.mem_cons, List.not_mem_nil, or_false] at hc
  rcases hc with rfl | rfl | rfl | rfl
  · rw [h1] at hlc; obtain rfl := Option.some.inj hlc; exact lok19a
  · rw [h2] at hlc; obtain rfl := Option.some.inj hlc; exact lok19b
  · rw [h3] at hlc; obtain rfl := Option.some.inj hlc; exact lok19n
  · rw [h4] at hlc; obtain rfl := Option.some.inj hlc; exact lok19d
def sm19 : Summary := mkSm [.ik .u8, .sl .u8, .sl .u8, .sl .bl] (fun ((n : Int), _) => [decide (0 ≤ n), decide (n ≤ 255)]) fun ((n : Int), (ps : List UInt8), (ns : List UInt8), (one : List Bool), _) => .fresh (.v (.c (.sl .lsa (S.graph n ps ns one))))
theorem ok19 : SumOK Try.prog 19 sm19 := by
  refine sum_ev Try.f19 (lv := lv19) (lcs := [(4, lc19a), (9, lc19b), (19, lc19n), (32, lc19d)]) (sig := []) (by kernel_rfl) ⟨by kernel_rfl, by kernel_rfl, by kernel_rfl⟩ sig_nil loops19 ?_
  rintro ⟨(n : Int), (ps : List UInt8), (ns : List UInt8), (one : List Bool), _⟩ hpre
  have hp : 0 ≤ n ∧ n ≤ 255 := by simpa using hpre
  suffices hnf : true = true ∧ true = true ∧ decide ((1 : Int) ≤ IntKind.i64.wrap ((1 : Int) + (IntKind.i64.wrap n).tmod (6 : Int))) = true ∧ decide (IntKind.i64.wrap ((1 : Int) + (IntKind.i64.wrap n).tmod (6 : Int)) ≤ (6 : Int)) = true ∧ true = true ∧ true = true ∧ decide ((1 : Int) ≤ IntKind.i64.wrap ((1 : Int) + (IntKind.i64.wrap n).tmod (6 : Int))) = true ∧ decide (IntKind.i64.wrap ((1 : Int) + (IntKind.i64.wrap n).tmod (6 : Int)) ≤ (6 : Int)) = true ∧ decide (IntKind.i64.wrap ((1 : Int) + (IntKind.i64.wrap n).tmod (6 : Int)) ≤ (↑(S.iterI S.rtrStep ((IntKind.i64.wrap ((1 : Int) + (IntKind.i64.wrap n).tmod (6 : Int))).toNat + (1 : Nat) - (1 : Nat)) (1 : Int) []).length : Int)) = true ∧ S.gOk (S.iterI S.rtrStep ((IntKind.i64.wrap ((1 : Int) + (IntKind.i64.wrap n).tmod (6 : Int))).toNat + (1 : Nat) - (1 : Nat)) (1 : Int) []) (0 : Int) = true ∧ true = true ∧ true = true ∧ decide ((1 : Int) ≤ IntKind.i64.wrap ((1 : Int) + (IntKind.i64.wrap n).tmod (6 : Int))) = true ∧ decide (IntKind.i64.wrap ((1 : Int) + (IntKind.i64.wrap n).tmod (6 : Int)) ≤ (6 : Int)) = true ∧ decide (IntKind.i64.wrap ((1 : Int) + (IntKind.i64.wrap n).tmod (6 : Int)) ≤ (↑(S.pairs ps one (IntKind.i64.wrap ((1 : Int) + (IntKind.i64.wrap n).tmod (6 : Int))) (12 : Nat) (0 : Int) (S.iterI S.rtrStep ((IntKind.i64.wrap ((1 : Int) + (IntKind.i64.wrap n).tmod (6 : Int))).toNat + (1 : Nat) - (1 : Nat)) (1 : Int) [], (0 : Int))).fst.length : Int)) = true ∧ decide ((↑(S.pairs ps one (IntKind.i64.wrap ((1 : Int) + (IntKind.i64.wrap n).tmod (6 : Int))) (12 : Nat) (0 : Int) (S.iterI S.rtrStep ((IntKind.i64.wrap ((1 : Int) + (IntKind.i64.wrap n).tmod (6 : Int))).toNat + (1 : Nat) - (1 : Nat)) (1 : Int) [], (0 : Int))).fst.length : Int) ≤ (6 : Int)) = true ∧ S.gOk (S.pairs ps one (IntKind.i64.wrap ((1 : Int) + (IntKind.i64.wrap n).tmod (6 : Int))) (12 : Nat) (0 : Int) (S.iterI S.rtrStep ((IntKind.i64.wrap ((1 : Int) + (IntKind.i64.wrap n).tmod (6 : Int))).toNat + (1 : Nat) - (1 : Nat)) (1 : Int) [], (0 : Int))).fst (40 : Int) = true ∧ decide ((0 : Int) ≤ (S.pairs ps one (IntKind.i64.wrap ((1 : Int) + (IntKind.i64.wrap n).tmod (6 : Int))) (12 : Nat) (0 : Int) (S.iterI S.rtrStep ((IntKind.i64.wrap ((1 : Int) + (IntKind.i64.wrap n).tmod (6 : Int))).toNat + (1 : Nat) - (1 : Nat)) (1 : Int) [], (0 : Int))).snd) = true ∧ decide ((S.pairs ps one (IntKind.i64.wrap ((1 : Int) + (IntKind.i64.wrap n).tmod (6 : Int))) (12 : Nat) (0 : Int) (S.iterI S.rtrStep ((IntKind.i64.wrap ((1 : Int) + (IntKind.i64.wrap n).tmod (6 : Int))).toNat + (1 : Nat) - (1 : Nat)) (1 : Int) [], (0 : Int))).snd ≤ (40 : Int)) = true ∧ true = true ∧ decide ((1 : Int) ≤ IntKind.i64.wrap ((1 : Int) + (IntKind.i64.wrap n).tmod (6 : Int))) = true ∧ decide (IntKind.i64.wrap ((1 : Int) + (IntKind.i64.wrap n).tmod (6 : Int)) ≤ (6 : Int)) = true ∧ decide (IntKind.i64.wrap ((1 : Int) + (IntKind.i64.wrap n).tmod (6 : Int)) ≤ (↑(S.iterI (S.netOne ns one (IntKind.i64.wrap ((1 : Int) + (IntKind.i64.wrap n).tmod (6 : Int)))) (min ns.length (8 : Nat)) (0 : Int) ((S.pairs ps one (IntKind.i64.wrap ((1 : Int) + (IntKind.i64.wrap n).tmod (6 : Int))) (12 : Nat) (0 : Int) (S.iterI S.rtrStep ((IntKind.i64.wrap ((1 : Int) + (IntKind.i64.wrap n).tmod (6 : Int))).toNat + (1 : Nat) - (1 : Nat)) (1 : Int) [], (0 : Int))).fst, (S.pairs ps one (IntKind.i64.wrap ((1 : Int) + (IntKind.i64.wrap n).tmod (6 : Int))) (12 : Nat) (0 : Int) (S.iterI S.rtrStep ((IntKind.i64.wrap ((1 : Int) + (IntKind.i64.wrap n).tmod (6 : Int))).toNat + (1 : Nat) - (1 : Nat)) (1 : Int) [], (0 : Int))).snd)).fst.length : Int)) = true ∧ S.gOk (S.iterI (S.netOne ns one (IntKind.i64.wrap ((1 : Int) + (IntKind.i64.wrap n).tmod (6 : Int)))) (min ns.length (8 : Nat)) (0 : Int) ((S.pairs ps one (IntKind.i64.wrap ((1 : Int) + (IntKind.i64.wrap n).tmod (6 : Int))) (12 : Nat) (0 : Int) (S.iterI S.rtrStep ((IntKind.i64.wrap ((1 : Int) + (IntKind.i64.wrap n).tmod (6 : Int))).toNat + (1 : Nat) - (1 : Nat)) (1 : Int) [], (0 : Int))).fst, (S.pairs ps one (IntKind.i64.wrap ((1 : Int) + (IntKind.i64.wrap n).tmod (6 : Int))) (12 : Nat) (0 : Int) (S.iterI S.rtrStep ((IntKind.i64.wrap ((1 : Int) + (IntKind.i64.wrap n).tmod (6 : Int))).toNat + (1 : Nat) - (1 : Nat)) (1 : Int) [], (0 : Int))).snd)).fst (94 : Int) = true ∧ some (AV.v (V1.c (C.sl K.lsa (S.iterI S.stStep (IntKind.i64.wrap ((1 : Int) + (IntKind.i64.wrap n).tmod (6 : Int))).toNat (0 : Int) (S.iterI (S.netOne ns one (IntKind.i64.wrap ((1 : Int) + (IntKind.i64.wrap n).tmod (6 : Int)))) (min ns.length (8 : Nat)) (0 : Int) ((S.pairs ps one (IntKind.i64.wrap ((1 : Int) + (IntKind.i64.wrap n).tmod (6 : Int))) (12 : Nat) (0 : Int) (S.iterI S.rtrStep ((IntKind.i64.wrap ((1 : Int) + (IntKind.i64.wrap n).tmod (6 : Int))).toNat + (1 : Nat) - (1 : Nat)) (1 : Int) [], (0 : Int))).fst, (S.pairs ps one (IntKind.i64.wrap ((1 : Int) + (IntKind.i64.wrap n).tmod (6 : Int))) (12 : Nat) (0 : Int) (S.iterI S.rtrStep ((IntKind.i64.wrap ((1 : Int) + (IntKind.i64.wrap n).tmod (6 : Int))).toNat + (1 : Nat) - (1 : Nat)) (1 : Int) [], (0 : Int))).snd)).fst)))) = some (AV.v (V1.c (C.sl K.lsa (S.graph n ps ns one)))) by (apply nfto hnf; kernel_rfl)
  obtain ⟨h0, h1⟩ := hp
  obtain ⟨hk, hk6⟩ := gk_r h0 h1
  obtain ⟨a1, a2⟩ := g1_r hk
  obtain ⟨b1, b2, b3, b4⟩ := g2_r (ps := ps) (one := one) hk
  obtain ⟨c1, c2, c3⟩ := g3_r (ps := ps) (ns := ns) (one := one) hk hk6
  have D1 : decide (1 ≤ S.gk n) = true := decide_eq_true hk
  have D2 : decide (S.gk n ≤ 6) = true := decide_eq_true hk6
  have A1 : decide (S.gk n ≤ ((S.g1 (S.gk n)).length : Int)) = true := decide_eq_true (by omega)
  have B1 : decide (S.gk n ≤ ((S.g2 ps one (S.gk n)).1.length : Int)) = true := decide_eq_true (by omega)
  have B2 : decide (((S.g2 ps one (S.gk n)).1.length : Int) ≤ 6) = true := decide_eq_true (by omega)
  have B3 : decide (0 ≤ (S.g2 ps one (S.gk n)).2) = true := decide_eq_true b3
  have B4 : decide ((S.g2 ps one (S.gk n)).2 ≤ 40) = true := decide_eq_true b4
  have C1 : decide (S.gk n ≤ ((S.g3 ps ns one (S.gk n)).1.length : Int)) = true := decide_eq_true c1
  exact ⟨rfl, rfl, D1, D2, rfl, rfl, D1, D2, A1, a2, rfl, rfl, D1, D2, B1, B2, b2, B3, B4, rfl, D1, D2, C1, c3, rfl⟩

end Go.Proofs.Ytoknhjmcoleejaa
