/- The document's map, the contract. No condition. -/
import Derived.Test.YtoknhjmcoleejaaFC
import Derived.Test.YtoknhjmcoleejaaGJ
set_option linter.unusedVariables false
set_option linter.unusedSimpArgs false
set_option maxHeartbeats 4000000
namespace Go.Proofs.Ytoknhjmcoleejaa
open Go.RowKit
theorem verts_len {ls : List Lsa} : (S.verts ls).length ≤ 2 * ls.length := by
  have h := iter_len (f := S.vstep) (xs := ls) (d := zero .lsa) 2 (fun s a => vstep_len s a) ls.length 0 []
  unfold S.verts
  simp only [List.length_nil, Nat.zero_add] at h
  exact h
def S.map (ls : List Lsa) : TMap := S.iter (S.mapStep ls) (S.verts ls) (zero .vert) (S.verts ls).length 0 ⟨S.verts ls, [], [], [], []⟩
def sm18 : Summary := mkSm [.sl .lsa] (fun ((ls : List Lsa), _) => [S.okM ls]) fun ((ls : List Lsa), _) => .fresh (.v (.agg (S.map ls).cells))
theorem ok18 : SumOK Try.prog 18 sm18 := by
  refine sum_ev Try.f18 (lv := lv18) (lcs := [(3, lc18a)]) (sig := sg18) (by kernel_rfl) ⟨by kernel_rfl, by kernel_rfl, by kernel_rfl⟩ sok18 (one_loop (c := c18a) (by kernel_rfl) lok18a) ?_
  rintro ⟨(ls : List Lsa), _⟩ hpre
  have hp : S.okM ls = true := by simpa using hpre
  have hl : ls.length ≤ 131072 := by
    have h := hp
    simp only [S.okM, Bool.and_eq_true, decide_eq_true_eq] at h
    exact h.1
  have hv := verts_len (ls := ls)
  have ht : S.tiny ls.length = true := by simp only [S.tiny, decide_eq_true_eq]; omega
  have hv2 : (S.verts ls).length ≤ 262144 := by omega
  suffices hnf : S.tiny ls.length = true ∧ true = true ∧ decide ((0 : Nat) = (0 : Nat)) = true ∧ decide ((0 : Nat) = (0 : Nat)) = true ∧ decide ((0 : Nat) = (0 : Nat)) = true ∧ decide ((0 : Nat) = (0 : Nat)) = true ∧ decide ((S.verts ls).length ≤ (262144 : Nat)) = true ∧ S.okM ls = true ∧ some (AV.v (V1.agg [C.sl K.vert (S.iter (S.mapStep ls) (S.verts ls) (zero K.vert) (S.verts ls).length (0 : Int) { verts := S.verts ls, edges := [], stubs := [], spans := [], wilds := [] : TMap }).verts, C.sl K.edge (S.iter (S.mapStep ls) (S.verts ls) (zero K.vert) (S.verts ls).length (0 : Int) { verts := S.verts ls, edges := [], stubs := [], spans := [], wilds := [] : TMap }).edges, C.sl K.stub (S.iter (S.mapStep ls) (S.verts ls) (zero K.vert) (S.verts ls).length (0 : Int) { verts := S.verts ls, edges := [], stubs := [], spans := [], wilds := [] : TMap }).stubs, C.sl K.span (S.iter (S.mapStep ls) (S.verts ls) (zero K.vert) (S.verts ls).length (0 : Int) { verts := S.verts ls, edges := [], stubs := [], spans := [], wilds := [] : TMap }).spans, C.sl K.int (S.iter (S.mapStep ls) (S.verts ls) (zero K.vert) (S.verts ls).length (0 : Int) { verts := S.verts ls, edges := [], stubs := [], spans := [], wilds := [] : TMap }).wilds])) = some (AV.v (V1.agg [C.sl K.vert (S.map ls).verts, C.sl K.edge (S.map ls).edges, C.sl K.stub (S.map ls).stubs, C.sl K.span (S.map ls).spans, C.sl K.int (S.map ls).wilds])) by (apply nfto hnf; kernel_rfl)
  exact ⟨ht, rfl, rfl, rfl, rfl, rfl, decide_eq_true hv2, hp, rfl⟩
end Go.Proofs.Ytoknhjmcoleejaa
