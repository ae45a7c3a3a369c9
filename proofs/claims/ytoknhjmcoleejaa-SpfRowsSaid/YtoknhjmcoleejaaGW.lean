/- SpfRows, the contract: true. No condition. -/
import Derived.Test.YtoknhjmcoleejaaGR
import Derived.Test.YtoknhjmcoleejaaGV
set_option linter.unusedVariables false
set_option linter.unusedSimpArgs false
set_option maxHeartbeats 4000000
namespace Go.Proofs.Ytoknhjmcoleejaa
open Go.RowKit
theorem loops4 : ∀ c', c' ∈ loopsOf (bodyOf Try.f4) → ∀ lc, look [(6, lc4a), (11, lc4b)] (headId c') = some lc → LoopOK Try.prog 176 c' lc := by
  have h : loopsOf (bodyOf Try.f4) = [c4a, c4b] := by kernel_rfl
  have h1 : headId c4a = 6 := by kernel_rfl
  have h2 : headId c4b = 11 := by kernel_rfl
  rw [h]
  intro c' hc lc hlc
  simp only [List.mem_cons, List.not_mem_nil, or_false] at hc
  rcases hc with rfl | rfl
  · rw [h1] at hlc; obtain rfl := Option.some.inj hlc; exact lok4a
  · rw [h2] at hlc; obtain rfl := Option.some.inj hlc; exact lok4b
def sg4 : List (Nat × Summary) := [(18, sm18), (20, sm20), (21, sm21), (22, sm22)]
theorem sok4 : SigOK Try.prog sg4 := sig_cons ok18 (sig_cons ok20 (sig_cons ok21 (sig_cons ok22 sig_nil)))
def sm4 : Summary := mkSm [.sl .u8, .u8] (fun _ => []) fun _ => .fresh (.v (.c (bo true)))
theorem ok4 : SumOK Try.prog 4 sm4 := by
  refine sum_ev Try.f4 (lv := lv4) (lcs := [(6, lc4a), (11, lc4b)]) (sig := sg4) (by kernel_rfl) ⟨by kernel_rfl, by kernel_rfl, by kernel_rfl⟩ sok4 loops4 ?_
  rintro ⟨(cs : List UInt8), (z : UInt8), _⟩ hpre
  suffices hnf : (((↑cs.length : Int) == (0 : Int) || decide ((↑cs.length : Int) > (15 : Int))) = true → some (AV.v (V1.c (C.val (Value.bool true)))) = some (AV.v (V1.c (C.val (Value.bool true))))) ∧ (((↑cs.length : Int) == (0 : Int) || decide ((↑cs.length : Int) > (15 : Int))) = false → true = true ∧ decide ((1 : Int) ≤ S.rowN cs) = true ∧ decide (S.rowN cs ≤ (16 : Int)) = true ∧ true = true ∧ true = true ∧ decide (cs.length ≤ (15 : Nat)) = true ∧ decide (cs.length < (S.row1 cs).length) = true ∧ S.gOk (S.row1 cs) (0 : Int) = true ∧ S.okM (S.row2 cs).fst = true ∧ S.tiny (S.map (S.row2 cs).fst).verts.length = true ∧ S.okLen (S.map (S.row2 cs).fst).edges.length = true ∧ inb (0 : Int) (S.row2 cs).fst.length = true ∧ inb (0 : Int) (S.row2 cs).fst.length = true ∧ roomy ((S.row2 cs).fst.getD (0 : Nat) (zero K.lsa)).links.length [S.rowP cs ((z.toNat : Nat) : Int)].length (32 : Nat) = true ∧ inb (0 : Int) (S.row2 cs).fst.length = true ∧ inb (0 : Int) (S.row2 cs).fst.length = true ∧ true = true ∧ inb (S.rowM cs) (S.row3a cs ((z.toNat : Nat) : Int)).length = true ∧ inb (S.rowM cs) (S.row3a cs ((z.toNat : Nat) : Int)).length = true ∧ roomy ((S.row3a cs ((z.toNat : Nat) : Int)).getD (S.rowM cs).toNat (zero K.lsa)).links.length [S.rowQ ((z.toNat : Nat) : Int)].length (32 : Nat) = true ∧ inb (S.rowM cs) (S.row3a cs ((z.toNat : Nat) : Int)).length = true ∧ inb (S.rowM cs) (S.row3a cs ((z.toNat : Nat) : Int)).length = true ∧ decide (S.rowM cs = S.rowM cs) = true ∧ S.okM (S.row3 cs ((z.toNat : Nat) : Int)) = true ∧ S.tiny (S.map (S.row3 cs ((z.toNat : Nat) : Int))).verts.length = true ∧ S.okLen (S.map (S.row3 cs ((z.toNat : Nat) : Int))).edges.length = true ∧ S.okLen (S.rowT cs).length = true ∧ S.okLen (S.rowU cs ((z.toNat : Nat) : Int)).length = true ∧ (!(decide (S.place (S.rowT cs) (S.rowV cs) ≥ (0 : Int)) && decide (S.place (S.rowU cs ((z.toNat : Nat) : Int)) (S.rowV cs) ≥ (0 : Int)) && (↑(S.rowT cs).length : Int) == S.rowN cs) || inb (S.place (S.rowT cs) (S.rowV cs)) (S.rowT cs).length) = true ∧ (!(decide (S.place (S.rowT cs) (S.rowV cs) ≥ (0 : Int)) && decide (S.place (S.rowU cs ((z.toNat : Nat) : Int)) (S.rowV cs) ≥ (0 : Int)) && (↑(S.rowT cs).length : Int) == S.rowN cs) || inb (S.place (S.rowT cs) (S.rowV cs)) (S.rowT cs).length) = true ∧ (!(decide (S.place (S.rowT cs) (S.rowV cs) ≥ (0 : Int)) && decide (S.place (S.rowU cs ((z.toNat : Nat) : Int)) (S.rowV cs) ≥ (0 : Int)) && (↑(S.rowT cs).length : Int) == S.rowN cs && ((S.rowT cs).getD (S.place (S.rowT cs) (S.rowV cs)).toNat (zero K.node)).cost == (S.row2 cs).snd) || inb (S.place (S.rowU cs ((z.toNat : Nat) : Int)) (S.rowV cs)) (S.rowU cs ((z.toNat : Nat) : Int)).length) = true ∧ (!(decide (S.place (S.rowT cs) (S.rowV cs) ≥ (0 : Int)) && decide (S.place (S.rowU cs ((z.toNat : Nat) : Int)) (S.rowV cs) ≥ (0 : Int)) && (↑(S.rowT cs).length : Int) == S.rowN cs && ((S.rowT cs).getD (S.place (S.rowT cs) (S.rowV cs)).toNat (zero K.node)).cost == (S.row2 cs).snd) || inb (S.place (S.rowU cs ((z.toNat : Nat) : Int)) (S.rowV cs)) (S.rowU cs ((z.toNat : Nat) : Int)).length) = true ∧ some (AV.v (V1.c (C.val (Value.bool ((decide (S.place (S.rowT cs) (S.rowV cs) ≥ (0 : Int)) && decide (S.place (S.rowU cs ((z.toNat : Nat) : Int)) (S.rowV cs) ≥ (0 : Int)) && (↑(S.rowT cs).length : Int) == S.rowN cs && ((S.rowT cs).getD (S.place (S.rowT cs) (S.rowV cs)).toNat (zero K.node)).cost == (S.row2 cs).snd && ((S.rowU cs ((z.toNat : Nat) : Int)).getD (S.place (S.rowU cs ((z.toNat : Nat) : Int)) (S.rowV cs)).toNat (zero K.node)).cost == if S.rowZ ((z.toNat : Nat) : Int) < (S.row2 cs).snd then S.rowZ ((z.toNat : Nat) : Int) else (S.row2 cs).snd) && true))))) = some (AV.v (V1.c (C.val (Value.bool true))))) by (apply nfto hnf; kernel_rfl)
  have hz := z.toNat_lt
  have h0 : (0 : Int) ≤ ((z.toNat : Nat) : Int) := by omega
  have h1 : ((z.toNat : Nat) : Int) ≤ 255 := by omega
  generalize ((z.toNat : Nat) : Int) = z at h0 h1 ⊢
  refine ⟨fun _ => rfl, fun hg => ?_⟩
  simp only [Bool.or_eq_false_iff, decide_eq_false_iff_not] at hg
  have hN1 : ¬ (cs.length : Int) = 0 := by simpa using hg.1
  have h15 : cs.length ≤ 15 := by omega
  have I1 := row1_I h15
  obtain ⟨I2, hsum⟩ := row2_I h15
  have hNe := rowN_eq h15
  have hMe := rowM_eq h15
  obtain ⟨g3, g3a, m3⟩ := row3_okM (z := z) h15
  obtain ⟨tl, a, ha, hpa, hca⟩ := rowT_r h15
  obtain ⟨ul, b, hb, hpb, hcb⟩ := rowU_r h15 h0 h1
  have m2 : S.okM (S.row2 cs).1 = true := by
    have hg := I2.ok
    simp only [S.gOk, List.all_eq_true, Bool.and_eq_true, decide_eq_true_eq] at hg
    simp only [S.okM, Bool.and_eq_true, decide_eq_true_eq, List.all_eq_true]
    refine ⟨by rw [I2.len]; omega, fun x hx => ?_⟩
    have := hg x hx
    simp only [S.okL, Bool.and_eq_true, decide_eq_true_eq]
    omega
  obtain ⟨v2, e2⟩ := map_len m2
  obtain ⟨v3, e3⟩ := map_len m3
  have i0 : inb 0 (S.row2 cs).1.length = true := by rw [inb_iff, I2.len]; omega
  have l3a : (S.row3a cs z).length = cs.length + 1 := by unfold S.row3a; rw [addLink_len, I2.len]
  have iM : inb (S.rowM cs) (S.row3a cs z).length = true := by rw [inb_iff, hMe, l3a]; omega
  have q0 : (((S.row2 cs).1.getD (0 : Int).toNat (zero .lsa)).links.length : Int) ≤ 2 * cs.length := (gOk_get I2.ok i0).1
  have r0 : roomy ((S.row2 cs).1.getD (0 : Nat) (zero .lsa)).links.length [S.rowP cs z].length 32 = true := by
    have q : (((S.row2 cs).1.getD (0 : Nat) (zero .lsa)).links.length : Int) ≤ 2 * cs.length := q0
    rw [roomy_iff]; simp only [List.length_singleton]; omega
  have rM : roomy ((S.row3a cs z).getD (S.rowM cs).toNat (zero .lsa)).links.length [S.rowQ z].length 32 = true := by
    have q : (((S.row3a cs z).getD (S.rowM cs).toNat (zero .lsa)).links.length : Int) ≤ 31 := (gOk_get g3a iM).1
    rw [roomy_iff]; simp only [List.length_singleton]; omega
  have t0 : S.okLen (S.rowT cs).length = true := by simp [S.okLen]; omega
  have u0 : S.okLen (S.rowU cs z).length = true := by simp [S.okLen]; omega
  have ia : inb (S.place (S.rowT cs) (S.rowV cs)) (S.rowT cs).length = true := by rw [inb_iff, hpa]; omega
  have ib : inb (S.place (S.rowU cs z) (S.rowV cs)) (S.rowU cs z).length = true := by rw [inb_iff, hpb]; omega
  have c1 : ((S.rowT cs).getD (S.place (S.rowT cs) (S.rowV cs)).toNat (zero .node)).cost = (S.row2 cs).2 := by
    rw [hpa, hsum, Int.toNat_natCast]; exact hca
  have c2 : ((S.rowU cs z).getD (S.place (S.rowU cs z) (S.rowV cs)).toNat (zero .node)).cost = if S.rowZ z < (S.row2 cs).2 then S.rowZ z else (S.row2 cs).2 := by
    rw [hpb, hsum, Int.toNat_natCast]; exact hcb
  refine ⟨rfl, decide_eq_true (by omega), decide_eq_true (by omega), rfl, rfl, decide_eq_true h15, decide_eq_true (by rw [I1.len]; omega), I1.ok, m2, by simp [S.tiny]; omega, by simp [S.okLen]; omega, i0, i0, r0, i0, i0, rfl, iM, iM, rM, iM, iM, decide_eq_true rfl, m3,
    by simp [S.tiny]; omega, by simp [S.okLen]; omega, t0, u0, by rw [ia, Bool.or_true], by rw [ia, Bool.or_true], by rw [ib, Bool.or_true], by rw [ib, Bool.or_true], ?_⟩
  rw [c1, c2, hpa, hpb, decide_eq_true (show ((a : Nat) : Int) ≥ 0 by omega), decide_eq_true (show ((b : Nat) : Int) ≥ 0 by omega), tl, hNe]
  simp
end Go.Proofs.Ytoknhjmcoleejaa
