/- SpfTrees, the contract: true. No condition. -/
import Derived.Test.YtoknhjmcoleejaaFC
import Derived.Test.YtoknhjmcoleejaaPB
set_option linter.unusedVariables false
set_option linter.unusedSimpArgs false
set_option maxHeartbeats 4000000
namespace Go.Proofs.Ytoknhjmcoleejaa
open Go.RowKit
def lv20 : List (Nat × List Nat) := [(0, []), (1, [1]), (2, [1, 2]), (3, [0])]
def lv6 : List (Nat × List Nat) := [(0, [0, 4, 5]), (1, [0, 4, 5, 11]), (2, [6]), (3, [4, 5, 7]), (4, [4, 5, 7, 8]), (5, [6])]
def sg20 : List (Nat × Summary) := [(21, sm21)]
def sm20 : Summary := mkSm [] (fun _ => []) fun _ => .fresh (.v (.c (bo true)))
theorem ok20 : SumOK Try.prog 20 sm20 := by
  refine sum_ev Try.f20 (lv := lv20) (lcs := []) (sig := sg20) (by kernel_rfl) ⟨by kernel_rfl, by kernel_rfl, by kernel_rfl⟩ (sig_cons ok21 sig_nil) (no_loops (by kernel_rfl)) ?_
  rintro _ hpre
  suffices hnf : true = true ∧ true = true ∧ true = true ∧ true = true ∧ true = true ∧ true = true ∧ some (AV.v (V1.c (C.val (Value.bool true)))) = some (AV.v (V1.c (C.val (Value.bool true)))) by (apply nfto hnf; kernel_rfl)
  exact ⟨rfl, rfl, rfl, rfl, rfl, rfl, rfl⟩
theorem right_r {ls : List Lsa} (h : S.right ls = true) : ls.length ≤ 40 ∧ ∀ i, i < ls.length → S.badAt ls i = false := by
  unfold S.right at h
  split at h
  · cases h
  · rename_i h1
    refine ⟨by simp only [decide_eq_true_eq] at h1; omega, fun i hi => ?_⟩
    cases hs : S.scan (fun i => S.badAt ls i) ls.length 0 with
    | some _ => rw [hs] at h; cases h
    | none => exact scan_none hs i (by omega) (by omega)
theorem right_okM {ls : List Lsa} (h : S.right ls = true) : S.okM ls = true := by
  obtain ⟨h1, h2⟩ := right_r h
  simp only [S.okM, Bool.and_eq_true, decide_eq_true_eq, List.all_eq_true]
  refine ⟨by omega, fun x hx => ?_⟩
  obtain ⟨i, hi, rfl⟩ := List.getElem_of_mem hx
  have := h2 i hi
  simp only [S.badAt, Bool.or_eq_false_iff, S.great, decide_eq_false_iff_not, Int.toNat_natCast] at this
  have e : ls.getD i (zero .lsa) = ls[i] := by simp [List.getD_eq_getElem?_getD, List.getElem?_eq_getElem hi]
  rw [e] at this
  simp only [S.okL, Bool.and_eq_true, decide_eq_true_eq]
  omega
def sg6 : List (Nat × Summary) := [(23, sm23), (20, sm20), (18, sm18), (21, sm21), (25, sm25), (24, sm24), (26, sm26), (22, sm22)]
theorem sok6 : SigOK Try.prog sg6 := sig_cons ok23 (sig_cons ok20 (sig_cons ok18 (sig_cons ok21 (sig_cons ok25 (sig_cons ok24 (sig_cons ok26 (sig_cons ok22 sig_nil)))))))
def sm6 : Summary := mkSm [.sl .lsa, .vert, .vert] (fun _ => []) fun ((ls : List Lsa), (ro : Vert), (v : Vert), _) => .fresh (.v (.c (bo true)))
theorem ok6 : SumOK Try.prog 6 sm6 := by
  refine sum_ev Try.f6 (lv := lv6) (lcs := []) (sig := sg6) (by kernel_rfl) ⟨by kernel_rfl, by kernel_rfl, by kernel_rfl⟩ sok6 (no_loops (by kernel_rfl)) ?_
  rintro ⟨(ls : List Lsa), (ro : Vert), (v : Vert), _⟩ hpre
  suffices hnf : ((!S.right ls) = true → some (AV.v (V1.c (C.val (Value.bool true)))) = some (AV.v (V1.c (C.val (Value.bool true))))) ∧ ((!S.right ls) = false → S.okM ls = true ∧ S.tiny (S.map ls).verts.length = true ∧ S.okLen (S.map ls).edges.length = true ∧ S.small (S.map ls).verts.length = true ∧ S.okLen (S.map ls).edges.length = true ∧ S.okLen (S.tree (S.map ls) ro).length = true ∧ (!S.nodes (S.tree (S.map ls) ro) (S.rtree (S.map ls) ro) || S.okLen (S.tree (S.map ls) ro).length) = true ∧ (!S.nodes (S.tree (S.map ls) ro) (S.rtree (S.map ls) ro) || S.okLen (S.tree (S.map ls) ro).length) = true ∧ some (AV.v (V1.c (C.val (Value.bool (S.nodes (S.tree (S.map ls) ro) (S.rtree (S.map ls) ro) && S.place (S.tree (S.map ls) ro) v == S.place (S.tree (S.map ls) ro) v && true))))) = some (AV.v (V1.c (C.val (Value.bool true))))) by (apply nfto hnf; kernel_rfl)
  refine ⟨fun h => rfl, fun h => ?_⟩
  have hr : S.right ls = true := by simpa using h
  have hM := right_okM hr
  obtain ⟨h1, h2⟩ := map_len hM
  have h3 := tree_len (S.map ls) ro
  have e := tree_eq (map_tm ls) ro
  have h4 : S.okLen (S.tree (S.map ls) ro).length = true := by simp [S.okLen]; omega
  refine ⟨hM, by simp [S.tiny]; omega, by simp [S.okLen]; omega, by simp [S.small]; omega, by simp [S.okLen]; omega, h4, by rw [h4]; simp, by rw [h4]; simp, ?_⟩
  rw [← e, nodes_refl]
  simp

end Go.Proofs.Ytoknhjmcoleejaa
