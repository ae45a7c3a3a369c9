/- SpfTies, the contract: true. No condition. -/
import Derived.Test.YtoknhjmcoleejaaGR
import Derived.Test.YtoknhjmcoleejaaPJ
set_option linter.unusedVariables false
set_option linter.unusedSimpArgs false
set_option maxHeartbeats 4000000
namespace Go.Proofs.Ytoknhjmcoleejaa
open Go.RowKit
def S.tK (n : UInt8) : Int := IntKind.i64.wrap (2 + (IntKind.i64.wrap (n.toNat : Int)).tmod 6)
def S.tC (z : UInt8) : Int := IntKind.i64.wrap (1 + IntKind.i64.wrap (z.toNat : Int))
def S.tC2 (z : UInt8) : Int := IntKind.i64.wrap (2 * S.tC z)
def S.tR (n z : UInt8) : List Lsa × Lsa × Lsa := S.tieR (S.tC z) ((S.tK n).toNat - 1)
def S.tN : Lsa := ⟨⟨0, 2, 900, 1, 0, 0, 0⟩, 0, [], 24, [1, 50], []⟩
def S.tXT (n z : UInt8) : Lsa := noR { (S.tR n z).2.1 with links := (S.tR n z).2.1.links ++ [⟨2, 900, 901, S.tC2 z⟩] }
def S.tYT (n z : UInt8) : Lsa := noR { (S.tR n z).2.2 with links := (S.tR n z).2.2.links ++ [⟨2, 900, 902, 1⟩] }
def S.tXF (n z : UInt8) : Lsa := noR (S.tR n z).2.1
def S.tYF (n z : UInt8) : Lsa := noR (S.tR n z).2.2
def S.tDT (n z : UInt8) : List Lsa := S.tieT (S.tC z) (S.tC2 z) ((S.tK n).toNat - 1)
def S.tDF (n z : UInt8) : List Lsa := S.tieF (S.tC z) ((S.tK n).toNat - 1)
def S.tTT (n z : UInt8) : List Node := S.tree (S.map (S.tDT n z)) r1
def S.tTF (n z : UInt8) : List Node := S.tree (S.map (S.tDF n z)) r1
def S.tAT (n z : UInt8) : Int := S.place (S.tTT n z) r50
def S.tAF (n z : UInt8) : Int := S.place (S.tTF n z) r50
def S.tET (n z : UInt8) : Node := (S.tTT n z).getD (S.tAT n z).toNat (zero .node)
def S.tEF (n z : UInt8) : Node := (S.tTF n z).getD (S.tAF n z).toNat (zero .node)
def S.tPT (n z : UInt8) : Node := (S.tTT n z).getD (S.tET n z).parent.toNat (zero .node)
def S.tPF (n z : UInt8) : Node := (S.tTF n z).getD (S.tEF n z).parent.toNat (zero .node)
theorem tie_room (c d : Int) {k : Nat} (h1 : 1 ≤ k) (h6 : k ≤ 6) : roomy (S.tieR c k).1.length 1 144 = true ∧ roomy (S.tieR c k).2.1.links.length 1 32 = true ∧ roomy (S.tieR c k).2.2.links.length 1 32 = true ∧ roomy ((S.tieR c k).1 ++ [S.tN]).length 2 144 = true ∧ roomy (S.tieR c k).1.length 2 144 = true ∧
    S.okM (S.tieF c k) = true ∧ S.okM (S.tieT c d k) = true := by
  obtain rfl | rfl | rfl | rfl | rfl | rfl : k = 1 ∨ k = 2 ∨ k = 3 ∨ k = 4 ∨ k = 5 ∨ k = 6 := by omega
  all_goals exact ⟨by kernel_rfl, by kernel_rfl, by kernel_rfl, by kernel_rfl, by kernel_rfl, by kernel_rfl, by kernel_rfl⟩
theorem tK_bd (n : UInt8) : 2 ≤ S.tK n ∧ S.tK n ≤ 7 := by
  unfold S.tK
  rw [u8w]
  have a := Int.tmod_nonneg (a := (n.toNat : Int)) 6 (by omega)
  have b := Int.tmod_lt_of_pos (n.toNat : Int) (b := 6) (by omega)
  rw [wrap_id (by omega) (by omega)]
  omega
theorem tC_bd (z : UInt8) : 1 ≤ S.tC z ∧ S.tC z ≤ 256 ∧ S.tC2 z = 2 * S.tC z := by
  have h : S.tC z = 1 + z.toNat := by
    unfold S.tC
    rw [u8w]
    have := z.toNat_lt
    exact wrap_id (by omega) (by omega)
  have := z.toNat_lt
  refine ⟨by omega, by omega, ?_⟩
  unfold S.tC2
  exact wrap_id (by omega) (by omega)
theorem tie_fin {k : Nat} {c : Int} {net : Bool} {m : TMap} {t : List Node} (T : Tie k c net m) (D : Tied k c net m t) : ∃ a p : Nat, S.place t r50 = a ∧ a < t.length ∧ p < t.length ∧ 1 ≤ a ∧ a + 1 = t.length ∧ (nd t a).cost = 2 * c ∧ (nd t a).parent = p ∧
    (net = false → (nd t p).vert = ri 0 ∧ (nd t a).data = 202 ∧ p = 1) ∧ (net = true → (nd t p).vert = vN ∧ (nd t a).data = 902 ∧ p + 2 = t.length) := by
  obtain ⟨a, p, h1, h2, h3, h4, h5, h6, h7, h8, h9⟩ := tie_r T D
  have := D.sh.dist a h1
  rw [h4] at this
  exact ⟨a, p, this, h1, h2, h3, h6, h5, h7, h8, h9⟩
theorem loops5 : ∀ c', c' ∈ loopsOf (bodyOf Try.f5) → ∀ lc, look [(7, lc5)] (headId c') = some lc → LoopOK Try.prog 184 c' lc := one_loop (c := c5) (by kernel_rfl) lok5
def sg5 : List (Nat × Summary) := [(18, sm18), (20, sm20), (21, sm21), (22, sm22)]
theorem sok5 : SigOK Try.prog sg5 := sig_cons ok18 (sig_cons ok20 (sig_cons ok21 (sig_cons ok22 sig_nil)))
def sm5 : Summary := mkSm [.u8, .u8, .bool] (fun _ => []) fun _ => .fresh (.v (.c (bo true)))
theorem ok5 : SumOK Try.prog 5 sm5 := by
  refine sum_ev Try.f5 (lv := lv5) (lcs := [(7, lc5)]) (sig := sg5) (by kernel_rfl) ⟨by kernel_rfl, by kernel_rfl, by kernel_rfl⟩ sok5 loops5 ?_
  rintro ⟨(n : UInt8), (z : UInt8), (net : Bool), _⟩ hpre
  suffices hnf : true = true ∧ decide ((1 : Int) ≤ S.tK n) = true ∧ decide (S.tK n ≤ (7 : Int)) = true ∧ true = true ∧ true = true ∧ true = true ∧ true = true ∧ true = true ∧ true = true ∧ true = true ∧ (net = true → roomy (S.tR n z).fst.length (1 : Nat) (144 : Nat) = true ∧ roomy (S.tR n z).snd.fst.links.length [{ kind := (2 : Int), id := (900 : Int), data := (901 : Int), cost := S.tC2 z : Link }].length (32 : Nat) = true ∧ roomy (S.tR n z).snd.snd.links.length (1 : Nat) (32 : Nat) = true ∧ roomy ((S.tR n z).fst ++ [S.tN]).length [(S.tXT n z), (S.tYT n z)].length (144 : Nat) = true ∧ S.okM (S.tDT n z) = true ∧ S.tiny (S.map (S.tDT n z)).verts.length = true ∧ S.okLen (S.map (S.tDT n z)).edges.length = true ∧ S.okLen (S.tTT n z).length = true ∧ (!!decide (S.tAT n z < (1 : Int)) || inb (S.tAT n z) (S.tTT n z).length) = true ∧ (!!decide (S.tAT n z < (1 : Int)) || inb (S.tAT n z) (S.tTT n z).length) = true ∧ ((decide (S.tAT n z < (1 : Int)) || (S.tET n z).cost != S.tC2 z || S.tAT n z != IntKind.i64.wrap ((↑(S.tTT n z).length : Int) - (1 : Int))) = true → some (AV.v (V1.c (C.val (Value.bool false)))) = some (AV.v (V1.c (C.val (Value.bool true))))) ∧ ((decide (S.tAT n z < (1 : Int)) || (S.tET n z).cost != S.tC2 z || S.tAT n z != IntKind.i64.wrap ((↑(S.tTT n z).length : Int) - (1 : Int))) = false → inb (S.tAT n z) (S.tTT n z).length = true ∧ inb (S.tAT n z) (S.tTT n z).length = true ∧ ((decide ((S.tET n z).parent < (0 : Int)) || decide ((S.tET n z).parent ≥ (↑(S.tTT n z).length : Int))) = true → some (AV.v (V1.c (C.val (Value.bool false)))) = some (AV.v (V1.c (C.val (Value.bool true))))) ∧ ((decide ((S.tET n z).parent < (0 : Int)) || decide ((S.tET n z).parent ≥ (↑(S.tTT n z).length : Int))) = false → (net = true → inb (S.tET n z).parent (S.tTT n z).length = true ∧ inb (S.tET n z).parent (S.tTT n z).length = true ∧ (!((S.tPT n z).vert.kind == (2 : Int) && ((S.tPT n z).vert.id == (900 : Int) && true)) || inb (S.tAT n z) (S.tTT n z).length) = true ∧ (!((S.tPT n z).vert.kind == (2 : Int) && ((S.tPT n z).vert.id == (900 : Int) && true)) || inb (S.tAT n z) (S.tTT n z).length) = true ∧ some (AV.v (V1.c (C.val (Value.bool ((S.tPT n z).vert.kind == (2 : Int) && ((S.tPT n z).vert.id == (900 : Int) && true) && (S.tET n z).data == (902 : Int) && (S.tET n z).parent == IntKind.i64.wrap ((↑(S.tTT n z).length : Int) - (2 : Int)) && true))))) = some (AV.v (V1.c (C.val (Value.bool true))))) ∧ (net = false → inb (S.tET n z).parent (S.tTT n z).length = true ∧ inb (S.tET n z).parent (S.tTT n z).length = true ∧ (!((S.tPT n z).vert.kind == (1 : Int) && ((S.tPT n z).vert.id == (2 : Int) && true)) || inb (S.tAT n z) (S.tTT n z).length) = true ∧ (!((S.tPT n z).vert.kind == (1 : Int) && ((S.tPT n z).vert.id == (2 : Int) && true)) || inb (S.tAT n z) (S.tTT n z).length) = true ∧ some (AV.v (V1.c (C.val (Value.bool ((S.tPT n z).vert.kind == (1 : Int) && ((S.tPT n z).vert.id == (2 : Int) && true) && (S.tET n z).data == (202 : Int) && (S.tET n z).parent == (1 : Int) && true))))) = some (AV.v (V1.c (C.val (Value.bool true)))))))) ∧ (net = false → roomy (S.tR n z).fst.length [(S.tXF n z), (S.tYF n z)].length (144 : Nat) = true ∧ S.okM (S.tDF n z) = true ∧ S.tiny (S.map (S.tDF n z)).verts.length = true ∧ S.okLen (S.map (S.tDF n z)).edges.length = true ∧ S.okLen (S.tTF n z).length = true ∧ (!!decide (S.tAF n z < (1 : Int)) || inb (S.tAF n z) (S.tTF n z).length) = true ∧ (!!decide (S.tAF n z < (1 : Int)) || inb (S.tAF n z) (S.tTF n z).length) = true ∧ ((decide (S.tAF n z < (1 : Int)) || (S.tEF n z).cost != S.tC2 z || S.tAF n z != IntKind.i64.wrap ((↑(S.tTF n z).length : Int) - (1 : Int))) = true → some (AV.v (V1.c (C.val (Value.bool false)))) = some (AV.v (V1.c (C.val (Value.bool true))))) ∧ ((decide (S.tAF n z < (1 : Int)) || (S.tEF n z).cost != S.tC2 z || S.tAF n z != IntKind.i64.wrap ((↑(S.tTF n z).length : Int) - (1 : Int))) = false → inb (S.tAF n z) (S.tTF n z).length = true ∧ inb (S.tAF n z) (S.tTF n z).length = true ∧ ((decide ((S.tEF n z).parent < (0 : Int)) || decide ((S.tEF n z).parent ≥ (↑(S.tTF n z).length : Int))) = true → some (AV.v (V1.c (C.val (Value.bool false)))) = some (AV.v (V1.c (C.val (Value.bool true))))) ∧ ((decide ((S.tEF n z).parent < (0 : Int)) || decide ((S.tEF n z).parent ≥ (↑(S.tTF n z).length : Int))) = false → (net = true → inb (S.tEF n z).parent (S.tTF n z).length = true ∧ inb (S.tEF n z).parent (S.tTF n z).length = true ∧ (!((S.tPF n z).vert.kind == (2 : Int) && ((S.tPF n z).vert.id == (900 : Int) && true)) || inb (S.tAF n z) (S.tTF n z).length) = true ∧ (!((S.tPF n z).vert.kind == (2 : Int) && ((S.tPF n z).vert.id == (900 : Int) && true)) || inb (S.tAF n z) (S.tTF n z).length) = true ∧ some (AV.v (V1.c (C.val (Value.bool ((S.tPF n z).vert.kind == (2 : Int) && ((S.tPF n z).vert.id == (900 : Int) && true) && (S.tEF n z).data == (902 : Int) && (S.tEF n z).parent == IntKind.i64.wrap ((↑(S.tTF n z).length : Int) - (2 : Int)) && true))))) = some (AV.v (V1.c (C.val (Value.bool true))))) ∧ (net = false → inb (S.tEF n z).parent (S.tTF n z).length = true ∧ inb (S.tEF n z).parent (S.tTF n z).length = true ∧ (!((S.tPF n z).vert.kind == (1 : Int) && ((S.tPF n z).vert.id == (2 : Int) && true)) || inb (S.tAF n z) (S.tTF n z).length) = true ∧ (!((S.tPF n z).vert.kind == (1 : Int) && ((S.tPF n z).vert.id == (2 : Int) && true)) || inb (S.tAF n z) (S.tTF n z).length) = true ∧ some (AV.v (V1.c (C.val (Value.bool ((S.tPF n z).vert.kind == (1 : Int) && ((S.tPF n z).vert.id == (2 : Int) && true) && (S.tEF n z).data == (202 : Int) && (S.tEF n z).parent == (1 : Int) && true))))) = some (AV.v (V1.c (C.val (Value.bool true)))))))) by (apply nfto hnf; kernel_rfl)
  obtain ⟨k2, k7⟩ := tK_bd n
  obtain ⟨c1, c256, cc⟩ := tC_bd z
  have hk1 : 1 ≤ (S.tK n).toNat - 1 := by omega
  have hk6 : (S.tK n).toNat - 1 ≤ 6 := by omega
  obtain ⟨q1, q2, q3, q4, q5, q6, q7⟩ := tie_room (S.tC z) (S.tC2 z) hk1 hk6
  refine ⟨rfl, decide_eq_true (by omega), decide_eq_true k7, rfl, rfl, rfl, rfl, rfl, rfl, rfl, fun hn => ?_, fun hn => ?_⟩
  · have T : Tie ((S.tK n).toNat - 1) (S.tC z) true (S.map (S.tDT n z)) := by unfold S.tDT; rw [cc]; exact tieT_tie hk1 hk6 c1 c256
    obtain ⟨v1, v2⟩ := map_len (show S.okM (S.tDT n z) = true from q7)
    have tl := tree_len (S.map (S.tDT n z)) r1
    obtain ⟨a, p, p1, p2, p3, p4, p5, p6, p7, _, p9⟩ := tie_fin T (tie_tied T v1)
    obtain ⟨w1, w2, w3⟩ := p9 rfl
    have e1 : S.tAT n z = (a : Int) := p1
    have tl' : (S.tTT n z).length ≤ 262146 := by unfold S.tTT; omega
    have p2' : a < (S.tTT n z).length := p2
    have p3' : p < (S.tTT n z).length := p3
    have p5' : a + 1 = (S.tTT n z).length := p5
    have w3' : p + 2 = (S.tTT n z).length := w3
    have e2 : S.tET n z = nd (S.tTT n z) a := by unfold S.tET; rw [e1, Int.toNat_natCast]
    have e3 : (S.tET n z).parent = (p : Int) := by rw [e2]; exact p7
    have e4 : S.tPT n z = nd (S.tTT n z) p := by unfold S.tPT; rw [e3, Int.toNat_natCast]
    have e5 : (S.tET n z).cost = S.tC2 z := by rw [e2, cc]; exact p6
    have e6 : (S.tET n z).data = 902 := by rw [e2]; exact w2
    have e7 : (S.tPT n z).vert = vN := by rw [e4]; exact w1
    have f1 : IntKind.i64.wrap (((S.tTT n z).length : Int) - 1) = a := by rw [wrap_id (by omega) (by omega)]; omega
    have f2 : IntKind.i64.wrap (((S.tTT n z).length : Int) - 2) = p := by rw [wrap_id (by omega) (by omega)]; omega
    have ia : inb (S.tAT n z) (S.tTT n z).length = true := by rw [inb_iff, e1]; omega
    have ip : inb (S.tET n z).parent (S.tTT n z).length = true := by rw [inb_iff, e3]; omega
    have b1 : (decide (S.tAT n z < (1 : Int)) || (S.tET n z).cost != S.tC2 z || S.tAT n z != IntKind.i64.wrap (((S.tTT n z).length : Int) - (1 : Int))) = false := by
      rw [f1, e5, e1, decide_eq_false (by omega)]
      simp
    have b2 : (decide ((S.tET n z).parent < (0 : Int)) || decide ((S.tET n z).parent ≥ ((S.tTT n z).length : Int))) = false := by
      rw [e3, decide_eq_false (by omega), decide_eq_false (by omega)]
      rfl
    refine ⟨q1, q2, q3, q4, q7, by simp [S.tiny]; omega, by simp [S.okLen]; omega, by simp [S.okLen]; omega, by rw [ia, Bool.or_true], by rw [ia, Bool.or_true], fun h => absurd (h.symm.trans b1) (by decide), fun _ => ⟨ia, ia, fun h => absurd (h.symm.trans b2) (by decide), fun _ => ⟨fun _ => ⟨ip, ip, by rw [ia, Bool.or_true], by rw [ia, Bool.or_true], ?_⟩, fun h => absurd (hn.symm.trans h) (by decide)⟩⟩⟩
    rw [f2, e3, e6, e7]
    simp
  · have T : Tie ((S.tK n).toNat - 1) (S.tC z) false (S.map (S.tDF n z)) := tieF_tie hk1 hk6 c1 c256
    obtain ⟨v1, v2⟩ := map_len (show S.okM (S.tDF n z) = true from q6)
    have tl := tree_len (S.map (S.tDF n z)) r1
    obtain ⟨a, p, p1, p2, p3, p4, p5, p6, p7, p8, _⟩ := tie_fin T (tie_tied T v1)
    obtain ⟨w1, w2, w3⟩ := p8 rfl
    have e1 : S.tAF n z = (a : Int) := p1
    have tl' : (S.tTF n z).length ≤ 262146 := by unfold S.tTF; omega
    have p2' : a < (S.tTF n z).length := p2
    have p3' : p < (S.tTF n z).length := p3
    have p5' : a + 1 = (S.tTF n z).length := p5
    have e2 : S.tEF n z = nd (S.tTF n z) a := by unfold S.tEF; rw [e1, Int.toNat_natCast]
    have e3 : (S.tEF n z).parent = (p : Int) := by rw [e2]; exact p7
    have e4 : S.tPF n z = nd (S.tTF n z) p := by unfold S.tPF; rw [e3, Int.toNat_natCast]
    have e5 : (S.tEF n z).cost = S.tC2 z := by rw [e2, cc]; exact p6
    have e6 : (S.tEF n z).data = 202 := by rw [e2]; exact w2
    have e7 : (S.tPF n z).vert = ri 0 := by rw [e4]; exact w1
    have f1 : IntKind.i64.wrap (((S.tTF n z).length : Int) - 1) = a := by rw [wrap_id (by omega) (by omega)]; omega
    have ia : inb (S.tAF n z) (S.tTF n z).length = true := by rw [inb_iff, e1]; omega
    have ip : inb (S.tEF n z).parent (S.tTF n z).length = true := by rw [inb_iff, e3]; omega
    have b1 : (decide (S.tAF n z < (1 : Int)) || (S.tEF n z).cost != S.tC2 z || S.tAF n z != IntKind.i64.wrap (((S.tTF n z).length : Int) - (1 : Int))) = false := by
      rw [f1, e5, e1, decide_eq_false (by omega)]
      simp
    have b2 : (decide ((S.tEF n z).parent < (0 : Int)) || decide ((S.tEF n z).parent ≥ ((S.tTF n z).length : Int))) = false := by
      rw [e3, decide_eq_false (by omega), decide_eq_false (by omega)]
      rfl
    refine ⟨q5, q6, by simp [S.tiny]; omega, by simp [S.okLen]; omega, by simp [S.okLen]; omega, by rw [ia, Bool.or_true], by rw [ia, Bool.or_true], fun h => absurd (h.symm.trans b1) (by decide), fun _ => ⟨ia, ia, fun h => absurd (h.symm.trans b2) (by decide), fun _ => ⟨fun h => absurd (hn.symm.trans h) (by decide), fun _ => ⟨ip, ip, by rw [ia, Bool.or_true], by rw [ia, Bool.or_true], ?_⟩⟩⟩⟩
    rw [e3, e6, e7, w3]
    simp
end Go.Proofs.Ytoknhjmcoleejaa
