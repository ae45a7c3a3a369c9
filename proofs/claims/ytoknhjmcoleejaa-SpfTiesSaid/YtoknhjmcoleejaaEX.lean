/- Rows whose elements own rows: one taken out, put back, rows handed over with an append. No condition. -/
import Derived.Test.YtoknhjmcoleejaaEL
set_option linter.unusedVariables false
set_option linter.unusedSimpArgs false
namespace Go.Proofs.Ytoknhjmcoleejaa
open Go.RowKit

theorem intOf_r {c : C} {n : Int} (h : intOf c = some n) : c = i64 n := by
  unfold intOf at h
  split at h
  · obtain rfl := Option.some.inj h; rfl
  · cases h
theorem boolOf_r {c : C} {n : Bool} (h : boolOf c = some n) : c = bo n := by
  unfold boolOf at h
  split at h
  · obtain rfl := Option.some.inj h; rfl
  · cases h
/-- Cells of an element as they were given, but for nil. -/
def NzL : List C → List C → Prop
  | [], [] => True
  | a :: l, b :: m => (b = a ∨ a = nilsl ∧ ∃ k, b = .sl k []) ∧ NzL l m
  | _, _ => False
theorem NzL.get : ∀ {l m : List C} {j : Nat} {c : C}, NzL l m → m[j]? = some c → ∃ c0, l[j]? = some c0 ∧ (c = c0 ∨ c0 = nilsl ∧ ∃ k, c = .sl k [])
  | [], [], j, c, _, h => by simp at h
  | a :: l, b :: m, 0, c, hn, h => ⟨a, rfl, by simp at h; subst h; exact hn.1⟩
  | a :: l, b :: m, j + 1, c, hn, h => by
    obtain ⟨c0, h1, h2⟩ := NzL.get hn.2 (by simpa using h)
    exact ⟨c0, by simpa using h1, h2⟩
  | [], _ :: _, _, _, h, _ => h.elim
  | _ :: _, [], _, _, h, _ => h.elim
theorem nzI {c : C} {n : Int} (h : intOf c = some n) : i64 n = c ∨ c = nilsl ∧ ∃ k, i64 n = .sl k [] := .inl (intOf_r h).symm
theorem nzB {c : C} {n : Bool} (h : boolOf c = some n) : bo n = c ∨ c = nilsl ∧ ∃ k, bo n = .sl k [] := .inl (boolOf_r h).symm
theorem nzS {k : K} {c : C} {xs : List (ty k)} (h : slOf k c = some xs) : .sl k xs = c ∨ c = nilsl ∧ ∃ k', C.sl k xs = .sl k' [] := by
  unfold slOf at h
  split at h <;> first
    | (simp only [Option.some.injEq] at h; subst h; exact .inl rfl)
    | (simp only [Option.some.injEq] at h; subst h; exact .inr ⟨rfl, _, rfl⟩)
    | cases h
theorem ofCells_nz {k : K} {cs : List C} {y : ty k} (h : ofCells k cs = some y) : NzL cs (cells k y) := by
  cases k
  case u8 => cases h
  case u32 => cases h
  case bl =>
    obtain ⟨c0, l0, n0, rfl, h0, h⟩ := popB_some h
    obtain ⟨rfl, rfl⟩ := fin0_some h
    exact ⟨nzB h0, trivial⟩
  case int =>
    obtain ⟨c0, l0, n0, rfl, h0, h⟩ := popI_some h
    obtain ⟨rfl, rfl⟩ := fin0_some h
    exact ⟨nzI h0, trivial⟩
  case vert =>
    obtain ⟨c0, l0, n0, rfl, h0, h⟩ := popI_some h
    obtain ⟨c1, l1, n1, rfl, h1, h⟩ := popI_some h
    obtain ⟨rfl, rfl⟩ := fin0_some h
    exact ⟨nzI h0, nzI h1, trivial⟩
  case edge =>
    obtain ⟨c0, l0, n0, rfl, h0, h⟩ := popI_some h
    obtain ⟨c1, l1, n1, rfl, h1, h⟩ := popI_some h
    obtain ⟨c2, l2, n2, rfl, h2, h⟩ := popI_some h
    obtain ⟨c3, l3, n3, rfl, h3, h⟩ := popI_some h
    obtain ⟨c4, l4, n4, rfl, h4, h⟩ := popI_some h
    obtain ⟨c5, l5, n5, rfl, h5, h⟩ := popI_some h
    obtain ⟨rfl, rfl⟩ := fin0_some h
    exact ⟨nzI h0, nzI h1, nzI h2, nzI h3, nzI h4, nzI h5, trivial⟩
  case stub =>
    obtain ⟨c0, l0, n0, rfl, h0, h⟩ := popI_some h
    obtain ⟨c1, l1, n1, rfl, h1, h⟩ := popI_some h
    obtain ⟨c2, l2, n2, rfl, h2, h⟩ := popI_some h
    obtain ⟨c3, l3, n3, rfl, h3, h⟩ := popI_some h
    obtain ⟨rfl, rfl⟩ := fin0_some h
    exact ⟨nzI h0, nzI h1, nzI h2, nzI h3, trivial⟩
  case span =>
    obtain ⟨c0, l0, n0, rfl, h0, h⟩ := popI_some h
    obtain ⟨c1, l1, n1, rfl, h1, h⟩ := popI_some h
    obtain ⟨c2, l2, n2, rfl, h2, h⟩ := popI_some h
    obtain ⟨c3, l3, n3, rfl, h3, h⟩ := popI_some h
    obtain ⟨rfl, rfl⟩ := fin0_some h
    exact ⟨nzI h0, nzI h1, nzI h2, nzI h3, trivial⟩
  case link =>
    obtain ⟨c0, l0, n0, rfl, h0, h⟩ := popI_some h
    obtain ⟨c1, l1, n1, rfl, h1, h⟩ := popI_some h
    obtain ⟨c2, l2, n2, rfl, h2, h⟩ := popI_some h
    obtain ⟨c3, l3, n3, rfl, h3, h⟩ := popI_some h
    obtain ⟨rfl, rfl⟩ := fin0_some h
    exact ⟨nzI h0, nzI h1, nzI h2, nzI h3, trivial⟩
  case node =>
    obtain ⟨c0, l0, n0, rfl, h0, h⟩ := popI_some h
    obtain ⟨c1, l1, n1, rfl, h1, h⟩ := popI_some h
    obtain ⟨c2, l2, n2, rfl, h2, h⟩ := popI_some h
    obtain ⟨c3, l3, n3, rfl, h3, h⟩ := popI_some h
    obtain ⟨c4, l4, n4, rfl, h4, h⟩ := popI_some h
    obtain ⟨rfl, rfl⟩ := fin0_some h
    exact ⟨nzI h0, nzI h1, nzI h2, nzI h3, nzI h4, trivial⟩
  case route =>
    obtain ⟨c0, l0, n0, rfl, h0, h⟩ := popI_some h
    obtain ⟨c1, l1, n1, rfl, h1, h⟩ := popI_some h
    obtain ⟨c2, l2, n2, rfl, h2, h⟩ := popI_some h
    obtain ⟨c3, l3, n3, rfl, h3, h⟩ := popI_some h
    obtain ⟨c4, l4, n4, rfl, h4, h⟩ := popI_some h
    obtain ⟨rfl, rfl⟩ := fin0_some h
    exact ⟨nzI h0, nzI h1, nzI h2, nzI h3, nzI h4, trivial⟩
  case outp =>
    obtain ⟨c0, l0, n0, rfl, h0, h⟩ := popI_some h
    obtain ⟨c1, l1, n1, rfl, h1, h⟩ := popI_some h
    obtain ⟨rfl, rfl⟩ := fin0_some h
    exact ⟨nzI h0, nzI h1, trivial⟩
  case lsa =>
    obtain ⟨c0, l0, n0, rfl, h0, h⟩ := popI_some h
    obtain ⟨c1, l1, n1, rfl, h1, h⟩ := popI_some h
    obtain ⟨c2, l2, n2, rfl, h2, h⟩ := popI_some h
    obtain ⟨c3, l3, n3, rfl, h3, h⟩ := popI_some h
    obtain ⟨c4, l4, n4, rfl, h4, h⟩ := popI_some h
    obtain ⟨c5, l5, n5, rfl, h5, h⟩ := popI_some h
    obtain ⟨c6, l6, n6, rfl, h6, h⟩ := popI_some h
    obtain ⟨c7, l7, n7, rfl, h7, h⟩ := popI_some h
    obtain ⟨c8, l8, n8, rfl, h8, h⟩ := popS_some h
    obtain ⟨c9, l9, n9, rfl, h9, h⟩ := popI_some h
    obtain ⟨c10, l10, n10, rfl, h10, h⟩ := popS_some h
    obtain ⟨c11, l11, n11, rfl, h11, h⟩ := popS_some h
    obtain ⟨rfl, rfl⟩ := fin0_some h
    exact ⟨nzI h0, nzI h1, nzI h2, nzI h3, nzI h4, nzI h5, nzI h6, nzI h7, nzS h8, nzI h9, nzS h10, nzS h11, trivial⟩
  case near =>
    obtain ⟨c0, l0, n0, rfl, h0, h⟩ := popI_some h
    obtain ⟨c1, l1, n1, rfl, h1, h⟩ := popI_some h
    obtain ⟨c2, l2, n2, rfl, h2, h⟩ := popI_some h
    obtain ⟨c3, l3, n3, rfl, h3, h⟩ := popI_some h
    obtain ⟨c4, l4, n4, rfl, h4, h⟩ := popI_some h
    obtain ⟨c5, l5, n5, rfl, h5, h⟩ := popB_some h
    obtain ⟨c6, l6, n6, rfl, h6, h⟩ := popI_some h
    obtain ⟨rfl, rfl⟩ := fin0_some h
    exact ⟨nzI h0, nzI h1, nzI h2, nzI h3, nzI h4, nzB h5, nzI h6, trivial⟩
  case port =>
    obtain ⟨c0, l0, n0, rfl, h0, h⟩ := popI_some h
    obtain ⟨c1, l1, n1, rfl, h1, h⟩ := popI_some h
    obtain ⟨c2, l2, n2, rfl, h2, h⟩ := popI_some h
    obtain ⟨c3, l3, n3, rfl, h3, h⟩ := popI_some h
    obtain ⟨c4, l4, n4, rfl, h4, h⟩ := popI_some h
    obtain ⟨c5, l5, n5, rfl, h5, h⟩ := popI_some h
    obtain ⟨c6, l6, n6, rfl, h6, h⟩ := popI_some h
    obtain ⟨c7, l7, n7, rfl, h7, h⟩ := popI_some h
    obtain ⟨c8, l8, n8, rfl, h8, h⟩ := popI_some h
    obtain ⟨c9, l9, n9, rfl, h9, h⟩ := popS_some h
    obtain ⟨c10, l10, n10, rfl, h10, h⟩ := popS_some h
    obtain ⟨rfl, rfl⟩ := fin0_some h
    exact ⟨nzI h0, nzI h1, nzI h2, nzI h3, nzI h4, nzI h5, nzI h6, nzI h7, nzI h8, nzS h9, nzS h10, trivial⟩
/-- The cells of an element: numbers, truths, slices of flat kinds. -/
def plainC : C → Bool
  | .val (.int _ _) => true
  | .val (.bool _) => true
  | .sl k _ => flatK k
  | _ => false
theorem cells_plain (k : K) (x : ty k) {c : C} (h : c ∈ cells k x) : plainC c = true := by
  have : (cells k x).all plainC = true := by cases k <;> rfl
  exact List.all_eq_true.1 this c h
theorem plain_nz {c : C} (h : plainC c = true) : c ≠ nilsl := by
  intro e; subst e; cases h

section
variable {R : RT} {P : Program} {w0 w w' : World} {N : Nat} {ops : Array Oper} {μ μ' : Nat → Gh} {r : RS} {a : Act} {ch : List (Nat × Bool)} {o : Oper}
theorem own_row {q : Nat} {k : K} {ys : List (ty k)} {u : Value} (hm : Mem R w0 μ r.b w) (hl : look r.b q = some (.arr k ys)) (h : CR w μ (Good R μ) (.own q) u) : μ q = .row u ∧ ∃ lv, w.ownsRow w0.heap.size (elemT k) (width k) u ys.length lv ∧ CsR w μ (Good R μ) (flatC k ys) lv := by
  obtain ⟨vals, h1, h2, h3, h4⟩ := row_shape hm hl h
  exact ⟨h3, vals, h1, h2⟩
theorem row_slice' {base : Nat} {e : TypeId} {size n : Nat} {v : Value} {xs : List Value} (h : w.ownsRow base e size v n xs) : ∃ a n c, v = .slice a n c := by
  rcases h.2 with ⟨h1, _⟩ | ⟨g, cap, cur, h1, _⟩
  · exact ⟨_, _, _, h1⟩
  · exact ⟨_, _, _, h1⟩
theorem grown_refl (w : World) : w.grownBy w none := ⟨rfl, rfl, rfl, Nat.le_refl _, fun _ _ _ => rfl⟩

/-! ### a row taken out -/
theorem snd_take (c : Ctx P R w0 N ops μ r a w ch) {x : Operand} {t : TypeId} (ho : o.op = .load t x) {p : AV} (h : rho r ch x = some p) {z : OR} (hz : evTake r o.dst t p = some z) (hcs : z.cs.all id = true) (hfree : ∀ k, z.nb = some k → ∀ d, o.dst = some d → look r.b d = none) : Snd P R w0 r o z μ a w := by
  have hp := rho_r c h
  unfold evTake at hz
  split at hz
  · rename_i k b i off k' d hk hd
    split at hz
    · rename_i k2 xs hl
      cases hb : Nat.beq k.no k2.no with
      | false => rw [hb] at hz; cases hz
      | true =>
        rw [hb, cond_true] at hz
        have hke := no_inj hb
        subst hke
        split at hz
        · rename_i k3 ys hc3
          cases hb3 : Nat.beq k'.no k3.no with
          | false => rw [hb3] at hz; cases hz
          | true =>
            rw [hb3, cond_true] at hz
            have hke3 := no_inj hb3
            subst hke3
            have hz' := Option.some.inj hz
            subst hz'
            have hfd := hfree _ rfl d hd
            have hi := inb_iff.1 (show inb i xs.length = true by simpa using hcs)
            have hlt : i.toNat < xs.length := by omega
            obtain ⟨v, f, vals, h1, hD⟩ := c.rel.mem.bl _ _ hl
            have hbd : b ≠ d := by intro e; subst e; rw [hl] at hfd; cases hfd
            have hx : xs[i.toNat]? = some (xs.getD i.toNat (zero k)) := by simp [List.getD_eq_getElem?_getD, List.getElem?_eq_getElem hlt]
            obtain ⟨u, hu, hu1, hu2, hu3⟩ := hD.cell _ _ hx _ _ hc3
            obtain ⟨e1, e2, lv, e3, e4⟩ := hu3 (by rintro ⟨p, hp, _⟩; cases hp)
            have hp' : CR w μ (Good R μ) (.elt k b i off) (a.eval x) := hp
            generalize hv : a.eval x = ux at hp'
            cases hp' with
            | @elt _ _ _ B n cc _ hbb =>
              rw [h1] at hbb
              injection hbb with hbb
              subst hbb
              have hcell : w.cell? ⟨B, i.toNat * width k + off, none⟩ = some u := by
                have := hD.row.cells rfl _ u hu
                rwa [add_mk, Nat.zero_add] at this
              have hty := c.tok.ty t _ (show look TT t = some ⟨.slice k', ((look TT t).getD ⟨.other, 0, []⟩).size, ((look TT t).getD ⟨.other, 0, []⟩).zero⟩ by
                unfold sliceK at hk
                split at hk
                · rename_i k4 n4 z4 hT
                  obtain rfl := Option.some.inj hk
                  rw [hT]; rfl
                · cases hk)
              have hia := isAgg_run (w := w) hty
              simp only at hia
              have hrun : (execOp a.eval o).run P w = .ok (.value u) w := by
                simp [execOp, ho, hv, Instr.loadAt, Instr.sureAddr, loadVar, hia, hcell]
              let f' : Nat → Nat → Value := fun p q => if p = i.toNat ∧ q = off then .slice none 0 0 else f p q
              let μ1 : Nat → Gh := fun m => if m = d then .row u else if m = b then .deep (.slice (some ⟨B, 0, none⟩) n cc) f' else μ m
              have hf' : ∀ p q B', (f' p q).ownBlock = some B' → (f p q).ownBlock = some B' ∧ ¬ (p = i.toNat ∧ q = off) := by
                intro p q B' hB'
                by_cases e : p = i.toNat ∧ q = off
                · simp [f', e, Value.ownBlock] at hB'
                · simp only [f', if_neg e] at hB'; exact ⟨hB', e⟩
              have m1 : μ1 d = .row u := by simp [μ1]
              have m2 : μ1 b = .deep (.slice (some ⟨B, 0, none⟩) n cc) f' := by simp [μ1, hbd]
              have hst : Step μ μ1 w w (fun m => m = b ∨ m = d) := by
                refine ⟨⟨none, grown_refl w, fun B hB => by cases hB⟩, fun m hm => by simp only [not_or] at hm; simp [μ1, hm.1, hm.2], fun m B' hm hB' => .inl ⟨b, .inl rfl, ?_⟩, fun m m' B' hm hm' g1 g2 => ?_⟩
                · rw [h1]
                  rcases hm with rfl | rfl
                  · rw [m2] at hB'
                    rcases hB' with hB' | ⟨p, q, hB'⟩
                    · exact .inl hB'
                    · exact .inr ⟨p, q, (hf' p q B' hB').1⟩
                  · rw [m1] at hB'
                    exact .inr ⟨i.toNat, off, by rw [← e1]; exact hB'⟩
                · have key : ∀ B', (μ1 b).own B' → (μ1 d).own B' → False := by
                    intro B' g1 g2
                    rw [m2] at g1; rw [m1] at g2
                    have g2' : (f i.toNat off).ownBlock = some B' := by rw [← e1]; exact g2
                    rcases g1 with g1 | ⟨p, q, g1⟩
                    · exact hD.apart _ _ _ g2' g1
                    · obtain ⟨g3, g4⟩ := hf' p q B' g1
                      exact g4 (hD.inj _ _ _ _ _ g3 g2')
                  rcases hm with rfl | rfl <;> rcases hm' with rfl | rfl
                  · rfl
                  · exact (key B' g1 g2).elim
                  · exact (key B' g2 g1).elim
                  · rfl
              have hsl : ∃ A n c, u = .slice A n c := row_slice' e3
              intro K Q hK
              refine wp_value hrun (hK u μ1 w ⟨fun _ _ => CR.own (by rw [m1]; rfl) hsl, ?_, fun y zz hy => ?_⟩)
              · unfold after
                rw [hd]
                refine hst.memL (l := []) (r := r) c.rel.mem (fun m hm => ?_) (fun m hm => ?_) (fun m hm => by cases hm) (fun m hm _ => ?_)
                · rcases hm with rfl | rfl
                  · refine ⟨fun kk hkk => ?_, fun hn => ?_⟩
                    · simp only [look_put, if_neg hbd, putBs, if_true, Option.some.injEq] at hkk
                      subst hkk
                      refine ⟨_, f', vals, m2, hD.row, fun p q B' hB' => hD.lo p q B' (hf' p q B' hB').1, fun p q p' q' B' g1 g2 => hD.inj p q p' q' B' (hf' p q B' g1).1 (hf' p' q' B' g2).1, fun p q B' g => hD.apart p q B' (hf' p q B' g).1, fun p y hy j cc' hcc => ?_⟩
                      obtain ⟨u', g1, g2⟩ := hD.cell p y hy j cc' hcc
                      refine ⟨u', g1, ?_⟩
                      cases cc' with
                      | sl k4 zs =>
                        obtain ⟨g3, g4, g5⟩ := g2
                        refine ⟨g3, ?_, fun hh => ?_⟩
                        · rintro ⟨pp, hpp, q1, q2⟩
                          obtain rfl := Option.some.inj hpp
                          simp [f', ← q1, ← q2, Value.ownBlock]
                        · have hne : ¬ (p = i.toNat ∧ j = off) := fun e => hh ⟨(i, off), rfl, e.1.symm, e.2.symm⟩
                          obtain ⟨s1, s2⟩ := g5 (by rintro ⟨p, hp, _⟩; cases hp)
                          refine ⟨?_, s2⟩
                          simp only [f', if_neg hne]; exact s1
                      | _ => exact g2
                    · simp only [look_put, if_neg hbd, putBs, if_true] at hn; cases hn
                  · refine ⟨fun kk hkk => ?_, fun hn => ?_⟩
                    · simp only [look_put, if_true, Option.some.injEq] at hkk
                      subst hkk
                      exact ⟨u, lv, m1, e3, csr_flatv e4 (flatC_val e2 ys)⟩
                    · simp only [look_put, if_true] at hn; cases hn
                · simp only [not_or] at hm
                  simp [look_put, putBs, hm.1, hm.2]
                · rcases hm with rfl | rfl
                  · left; rw [m2, h1]; rfl
                  · exact .inr hfd
              · refine hst.avr hy (fun m hm hS => ?_)
                rcases hS with rfl | rfl
                · rw [m2, h1]; rfl
                · exact absurd hm (hy.dead_ref (c.rel.mem.dead _ hfd))
        · cases hz
    · cases hz
  · cases hz

/-! ### a row put back -/
theorem splice_get {cs ds : List C} {off : Nat} {j : Nat} {c0 : C} (hd : ds.length = 1) (ho : off < cs.length) (h : (splice cs off ds)[j]? = some c0) : (j = off ∧ ds = [c0]) ∨ (j ≠ off ∧ cs[j]? = some c0) := by
  obtain ⟨d, rfl⟩ : ∃ d, ds = [d] := by
    match ds, hd with
    | [d], _ => exact ⟨d, rfl⟩
  unfold splice at h
  rw [List.getElem?_append] at h
  have htl : (cs.take off).length = off := by rw [List.length_take]; omega
  rw [htl] at h
  by_cases hj : j < off
  · rw [if_pos hj, List.getElem?_take, if_pos hj] at h
    exact .inr ⟨by omega, h⟩
  · rw [if_neg hj] at h
    by_cases e : j = off
    · subst e
      simp at h
      exact .inl ⟨rfl, by rw [h]⟩
    · right
      refine ⟨e, ?_⟩
      obtain ⟨q, hq⟩ : ∃ q, j - off = q + 1 := ⟨j - off - 1, by omega⟩
      rw [hq] at h
      simp only [List.cons_append, List.nil_append, List.getElem?_cons_succ, List.getElem?_drop, List.length_singleton] at h
      rw [show j = off + 1 + q by omega]
      exact h
theorem snd_fill (c : Ctx P R w0 N ops μ r a w ch) {x y : Operand} {t : TypeId} (ho : o.op = .store t x y) (hdst : o.dst = none) {p q : AV} (h : rho r ch x = some p) (h' : rho r ch y = some q) {z : OR} (hz : evFill r t p q = some z)
    (hcs : z.cs.all id = true) : Snd P R w0 r o z μ a w := by
  have hp := rho_r c h
  have hq := rho_r c h'
  unfold evFill at hz
  split at hz
  · rename_i k b i off q
    split at hz
    · rename_i k2 xs i' off' k3 ys hl hlq
      split at hz
      · rename_i k4 ys0 k5 hc4 hk5
        cases hb : (Nat.beq k.no k2.no && Nat.beq off off' && Nat.beq k3.no k4.no && Nat.beq k3.no k5.no) with
        | false => rw [hb] at hz; cases hz
        | true =>
          rw [hb, cond_true] at hz
          simp only [Bool.and_eq_true] at hb
          obtain ⟨⟨⟨b1, b2⟩, b3⟩, b4⟩ := hb
          have e1 := no_inj b1
          have e2 := Nat.eq_of_beq_eq_true b2
          have e3 := no_inj b3
          have e4 := no_inj b4
          subst e1 e2 e3 e4
          split at hz
          · rename_i yy hof
            have hz' := Option.some.inj hz
            subst hz'
            simp only [List.all_cons, List.all_nil, Bool.and_true, id, Bool.and_eq_true, decide_eq_true_eq] at hcs
            obtain ⟨hin, rfl⟩ := hcs
            have hi := inb_iff.1 hin
            have hlt : i.toNat < xs.length := by omega
            obtain ⟨v, f, vals, h1, hD⟩ := c.rel.mem.bl _ _ hl
            have hx : xs[i.toNat]? = some (xs.getD i.toNat (zero k)) := by simp [List.getD_eq_getElem?_getD, List.getElem?_eq_getElem hlt]
            have hfl : flatK k3 = true := cells_plain k _ (List.mem_of_getElem? hc4)
            obtain ⟨m1, lv, q1, q2⟩ := own_row c.rel.mem hlq (show CR w μ (Good R μ) (.own q) (a.eval y) from hq)
            have hbq : b ≠ q := by intro e; subst e; rw [hl] at hlq; cases hlq
            obtain ⟨A, n1, c1, hsl⟩ := row_slice' q1
            have hone : (a.eval y).oneCell' = true := by rw [hsl]; rfl
            have hcells : (a.eval y).cells.toList = [a.eval y] := by rw [hsl]; rfl
            have hp' : CR w μ (Good R μ) (.elt k b i off) (a.eval x) := hp
            generalize hv : a.eval x = ux at hp'
            cases hp' with
            | @elt _ _ _ B n cc _ hbb =>
              rw [h1] at hbb
              injection hbb with hbb
              subst hbb
              have hoff : off < width k := by have := (List.getElem?_eq_some_iff.1 hc4).1; rwa [cells_length] at this
              have hT : ∃ ty0, look TT t = some ty0 ∧ fits t (.c (.own q)) = true := by
                unfold sliceK at hk5
                split at hk5
                · rename_i k4 n4 z4 hT
                  exact ⟨_, hT, by simp [fits, hT]⟩
                · cases hk5
              obtain ⟨ty0, hT, hfit⟩ := hT
              have hrow := hD.row
              rcases hrow.2 with ⟨hnil, _⟩ | ⟨g, cap, cur, heq, hge, hheap, hnc, hcm, hcsz, hct⟩
              · cases hnil
              · injection heq with g1 g2 g3
                injection g1 with g1
                injection g1 with g1
                subst g1
                have hvl : vals.length = xs.length * width k := hrow.1
                have hiw : i.toNat * width k + width k ≤ xs.length * width k := by
                  have : (i.toNat + 1) * width k ≤ xs.length * width k := Nat.mul_le_mul_right _ (by omega)
                  rwa [Nat.add_mul, Nat.one_mul] at this
                have hcap : xs.length * width k ≤ cur.size := by rw [hcsz]; exact Nat.mul_le_mul_right _ hnc
                obtain ⟨hrun, _⟩ := store_run (w := w) (G := Good R μ) (μ := μ) (y := .c (.own q)) (c.tok.ty t ty0 hT) hT hq hfit hheap (by simp only [V1.cs, List.length_singleton]; omega : i.toNat * width k + off + (V1.cs (.c (.own q))).length ≤ cur.size)
                rw [hcells] at hrun
                have hs1 : w.setCells B (i.toNat * width k + off) [a.eval y] = w.setCell ⟨B, i.toNat * width k + off, none⟩ (a.eval y) := rfl
                rw [hs1] at hrun
                subst g2 g3
                obtain ⟨hrow', hgr⟩ := hrow.stored (i.toNat * width k + off) (a.eval y)
                let f' : Nat → Nat → Value := fun p q => if p = i.toNat ∧ q = off then a.eval y else f p q
                let μ1 : Nat → Gh := fun m => if m = b then .deep (.slice (some ⟨B, 0, none⟩) xs.length cc) f' else if m = q then .dead else μ m
                have n1' : μ1 b = .deep (.slice (some ⟨B, 0, none⟩) xs.length cc) f' := by simp [μ1]
                have n2' : μ1 q = .dead := by simp [μ1, Ne.symm hbq]
                have ownq : ∀ B', (a.eval y).ownBlock = some B' → (μ q).own B' := fun B' h => by rw [m1]; exact h
                have ownb : ∀ p j B', (f p j).ownBlock = some B' → (μ b).own B' := fun p j B' h => by rw [h1]; exact .inr ⟨p, j, h⟩
                have hf' : ∀ p j B', (f' p j).ownBlock = some B' → (p = i.toNat ∧ j = off ∧ (a.eval y).ownBlock = some B') ∨ (¬ (p = i.toNat ∧ j = off) ∧ (f p j).ownBlock = some B') := by
                  intro p j B' hB'
                  by_cases e : p = i.toNat ∧ j = off
                  · simp only [f', if_pos e] at hB'; exact .inl ⟨e.1, e.2, hB'⟩
                  · simp only [f', if_neg e] at hB'; exact .inr ⟨e, hB'⟩
                have hst : Step μ μ1 w (w.setCell ⟨B, i.toNat * width k + off, none⟩ (a.eval y)) (fun m => m = b ∨ m = q) := by
                  refine ⟨⟨some B, hgr, fun B' hB' => ⟨b, .inl rfl, by cases hB'; rw [h1]; exact .inl rfl⟩⟩, fun m hm => by simp only [not_or] at hm; simp [μ1, hm.1, hm.2], fun m B' hm hB' => .inl ?_, fun m m' B' hm hm' s1 s2 => ?_⟩
                  · rcases hm with rfl | rfl
                    · rw [n1'] at hB'
                      rcases hB' with hB' | ⟨p, j, hB'⟩
                      · exact ⟨m, .inl rfl, by rw [h1]; exact .inl hB'⟩
                      · rcases hf' p j B' hB' with ⟨_, _, hB'⟩ | ⟨_, hB'⟩
                        · exact ⟨q, .inr rfl, ownq B' hB'⟩
                        · exact ⟨m, .inl rfl, ownb p j B' hB'⟩
                    · rw [n2'] at hB'; exact hB'.elim
                  · rcases hm with rfl | rfl
                    · rcases hm' with rfl | rfl
                      · rfl
                      · rw [n2'] at s2; exact s2.elim
                    · rw [n2'] at s1; exact s1.elim
                have hap : ∀ B', (a.eval y).ownBlock = some B' → B' ≠ B := by
                  intro B' hB' e
                  subst e
                  exact hbq (c.rel.mem.inj b q B' (by rw [h1]; exact .inl rfl) (ownq B' hB'))
                intro K Q hK
                refine wp_skipped (w' := w.setCell ⟨B, i.toNat * width k + off, none⟩ (a.eval y)) (by simp [execOp, ho, hv, hrun]) (hK _ μ1 _ ⟨fun m hm => absurd (hdst ▸ hm) (by simp), ?_, fun y' zz hy => ?_⟩)
                · unfold after
                  rw [hdst]
                  refine hst.memL (l := [q]) (r := r) c.rel.mem (fun m hm => ?_) (fun m hm => ?_) (fun m hm => .inr (by simpa using hm)) (fun m hm hml => ?_)
                  · rcases hm with rfl | rfl
                    · refine ⟨fun kk hkk => ?_, fun hn => ?_⟩
                      · simp only [putBs, look_put, if_true, Option.some.injEq] at hkk
                        subst hkk
                        refine ⟨_, f', vals.set (i.toNat * width k + off) (a.eval y), n1', by simpa using hrow', fun p j B' hB' => ?_, fun p j p' j' B' s1 s2 => ?_, fun p j B' hB' => ?_, fun p y0 hy0 j cc' hcc => ?_⟩
                        · rcases hf' p j B' hB' with ⟨_, _, hB'⟩ | ⟨_, hB'⟩
                          · have := q1.lt B' hB'
                            exact ⟨this.1, Nat.lt_of_lt_of_le this.2 hgr.size⟩
                          · have := hD.lo p j B' hB'
                            exact ⟨this.1, Nat.lt_of_lt_of_le this.2 hgr.size⟩
                        · rcases hf' p j B' s1 with ⟨t1, t2, t3⟩ | ⟨t1, t3⟩ <;> rcases hf' p' j' B' s2 with ⟨t4, t5, t6⟩ | ⟨t4, t6⟩
                          · exact ⟨t1.trans t4.symm, t2.trans t5.symm⟩
                          · exact absurd (c.rel.mem.inj m q B' (ownb _ _ B' t6) (ownq B' t3)) hbq
                          · exact absurd (c.rel.mem.inj m q B' (ownb _ _ B' t3) (ownq B' t6)) hbq
                          · exact hD.inj _ _ _ _ B' t3 t6
                        · rcases hf' p j B' hB' with ⟨_, _, hB'⟩ | ⟨_, hB'⟩
                          · intro e; injection e with e; exact hap B' hB' e.symm
                          · exact hD.apart p j B' hB'
                        · -- the cells
                          have old : ∀ y1, xs[p]? = some y1 → (cells k y1)[j]? = some cc' → ¬ (p = i.toNat ∧ j = off) → ∃ u, (vals.set (i.toNat * width k + off) (a.eval y))[p * width k + j]? = some u ∧ DC (w.setCell ⟨B, i.toNat * width k + off, none⟩ (a.eval y)) w0.heap.size f' none p j cc' u := by
                            intro y1 hy1 hcy hne
                            obtain ⟨u, s1, s2⟩ := hD.cell p y1 hy1 j cc' hcy
                            have hjw : j < width k := by have := (List.getElem?_eq_some_iff.1 hcy).1; rwa [cells_length] at this
                            have hpos : i.toNat * width k + off ≠ p * width k + j := by
                              intro e
                              apply hne
                              have d1 : (i.toNat * width k + off) / width k = i.toNat := by rw [Nat.mul_comm, Nat.mul_add_div (width_pos k), Nat.div_eq_of_lt hoff]; rfl
                              have d2 : (p * width k + j) / width k = p := by rw [Nat.mul_comm, Nat.mul_add_div (width_pos k), Nat.div_eq_of_lt hjw]; rfl
                              have d3 : p = i.toNat := by rw [← d2, ← e, d1]
                              subst d3
                              exact ⟨rfl, by omega⟩
                            refine ⟨u, by rw [List.getElem?_set_ne hpos]; exact s1, ?_⟩
                            have s3 := s2.kept hgr (fun B' hB' e => by injection e with e; exact hD.apart p j B' hB' (by rw [e]; rfl))
                            cases cc' with
                            | sl k4 zs =>
                              obtain ⟨s4, s5, s6⟩ := s3
                              refine ⟨s4, fun hh => (by obtain ⟨_, hh, _⟩ := hh; cases hh), fun _ => ?_⟩
                              obtain ⟨s7, s8⟩ := s6 (by rintro ⟨pp, hpp, t1, t2⟩; obtain rfl := Option.some.inj hpp; exact hne ⟨t1.symm, t2.symm⟩)
                              exact ⟨by simp only [f', if_neg hne]; exact s7, s8⟩
                            | _ => exact s3
                          rw [List.getElem?_set] at hy0
                          by_cases hpi : i.toNat = p
                          · subst hpi
                            simp only [if_true, hlt] at hy0
                            obtain rfl := Option.some.inj hy0
                            obtain ⟨c0, s1, s2⟩ := (ofCells_nz hof).get hcc
                            rcases splice_get rfl (by rw [cells_length]; exact hoff) s1 with ⟨rfl, s3⟩ | ⟨s3, s4⟩
                            · simp only [List.cons.injEq, and_true] at s3
                              subst s3
                              rcases s2 with rfl | ⟨s2, _⟩
                              · refine ⟨a.eval y, ?_, hone, fun hh => (by obtain ⟨_, hh, _⟩ := hh; cases hh), fun _ => ⟨by simp [f'], hfl, lv, q1.kept hgr ?_, csr_flatv q2 (flatC_val hfl ys)⟩⟩
                                · rw [List.getElem?_set_self (by rw [hvl]; omega)]
                                · cases hob : (a.eval y).ownBlock with
                                  | none => exact .inl rfl
                                  | some B' => exact .inr fun e => hap B' hob (by injection e)
                              · cases s2
                            · have hpl := cells_plain k _ (List.mem_of_getElem? s4)
                              rcases s2 with rfl | ⟨s2, _⟩
                              · exact old _ hx s4 (fun e => s3 e.2)
                              · exact absurd s2 (plain_nz hpl)
                          · rw [if_neg hpi] at hy0
                            exact old y0 hy0 hcc (fun e => hpi e.1.symm)
                      · simp only [putBs, look_put, if_true] at hn; cases hn
                    · refine ⟨fun kk hkk => ?_, fun _ => n2'⟩
                      simp only [putBs, look_put, if_neg (Ne.symm hbq), look_killL_b, List.mem_singleton, if_true] at hkk
                      cases hkk
                  · simp only [not_or] at hm
                    simp [look_put, putBs, hm.1]
                  · rcases hm with rfl | rfl
                    · left; rw [n1', h1]; rfl
                    · exact absurd (by simp) hml
                · refine hst.avr (killLV_r [q] hy) (fun m hm hS => ?_)
                  have hm' := killLV_ref [q] y' m hm
                  rcases hS with rfl | rfl
                  · rw [n1', h1]; rfl
                  · exact absurd (by simp) hm'.1
          · cases hz
      · cases hz
    · cases hz
  · cases hz

/-! ### rows handed over -/
def ownOf : C → Option Nat
  | .own q => some q
  | _ => none
theorem nodupB_r : ∀ {l : List Nat}, nodupB l = true → l.Nodup
  | [], _ => List.nodup_nil
  | n :: l, h => by
    simp only [nodupB, Bool.and_eq_true, Bool.not_eq_true'] at h
    rw [List.nodup_cons]
    refine ⟨fun hm => ?_, nodupB_r h.2⟩
    rw [nmem_iff.2 hm] at h
    cases h.1
theorem filterMap_inj {α β : Type} {f : α → Option β} : ∀ {l : List α} {i j : Nat} {x y : α} {q : β}, (l.filterMap f).Nodup → l[i]? = some x → l[j]? = some y → f x = some q → f y = some q → i = j
  | [], i, j, x, y, q, h, hi, _, _, _ => by simp at hi
  | z :: l, 0, 0, x, y, q, h, hi, hj, hx, hy => rfl
  | z :: l, 0, j + 1, x, y, q, h, hi, hj, hx, hy => by
    simp only [List.getElem?_cons_zero, Option.some.injEq] at hi
    subst hi
    rw [List.filterMap_cons_some hx, List.nodup_cons] at h
    exact absurd (List.mem_filterMap.2 ⟨y, List.mem_of_getElem? (by simpa using hj), hy⟩) h.1
  | z :: l, i + 1, 0, x, y, q, h, hi, hj, hx, hy => by
    simp only [List.getElem?_cons_zero, Option.some.injEq] at hj
    subst hj
    rw [List.filterMap_cons_some hy, List.nodup_cons] at h
    exact absurd (List.mem_filterMap.2 ⟨x, List.mem_of_getElem? (by simpa using hi), hx⟩) h.1
  | z :: l, i + 1, j + 1, x, y, q, h, hi, hj, hx, hy => by
    have hn : (l.filterMap f).Nodup := by
      cases hz : f z with
      | none => rwa [List.filterMap_cons_none hz] at h
      | some b => rw [List.filterMap_cons_some hz, List.nodup_cons] at h; exact h.2
    exact congrArg (· + 1) (filterMap_inj hn (by simpa using hi) (by simpa using hj) hx hy)
/-- A cell as it stands, and as it is handed over. -/
def AbsR (r : RS) (c c' : C) : Prop := (∃ q k ys, c = .own q ∧ look r.b q = some (.arr k ys) ∧ c' = .sl k ys) ∨ (∃ v, c = .val v ∧ c' = .val v)
theorem absCs_r : ∀ {l l' : List C} {ns : List Nat}, absCs r l = some (l', ns) → ns = l.filterMap ownOf ∧ l'.length = l.length ∧ ∀ (j : Nat) (c' : C), l'[j]? = some c' → ∃ c : C, l[j]? = some c ∧ AbsR r c c'
  | [], l', ns, h => by
    simp only [absCs, Option.some.injEq, Prod.mk.injEq] at h
    obtain ⟨rfl, rfl⟩ := h
    exact ⟨rfl, rfl, fun j c' h => by simp at h⟩
  | c :: l, l', ns, h => by
    simp only [absCs] at h
    split at h
    · rename_i c1 n1 l1 m1 h1 h2
      simp only [Option.some.injEq, Prod.mk.injEq] at h
      obtain ⟨rfl, rfl⟩ := h
      obtain ⟨q1, q2, q3⟩ := absCs_r h2
      have hc : n1 = (ownOf c).toList ∧ AbsR r c c1 := by
        unfold absC at h1
        split at h1
        · rename_i q
          split at h1
          · rename_i k ys hl
            simp only [Option.some.injEq, Prod.mk.injEq] at h1
            obtain ⟨rfl, rfl⟩ := h1
            exact ⟨rfl, .inl ⟨q, k, ys, rfl, hl, rfl⟩⟩
          · cases h1
        · simp only [Option.some.injEq, Prod.mk.injEq] at h1
          obtain ⟨rfl, rfl⟩ := h1
          exact ⟨rfl, .inr ⟨_, rfl, rfl⟩⟩
        · cases h1
      refine ⟨?_, by simp [q2], fun j c' hj => ?_⟩
      · rw [hc.1, q1]
        cases ho : ownOf c with
        | none => rw [List.filterMap_cons_none ho]; rfl
        | some b => rw [List.filterMap_cons_some ho]; rfl
      · cases j with
        | zero => simp at hj; subst hj; exact ⟨c, rfl, hc.2⟩
        | succ j =>
          obtain ⟨c0, h3, h4⟩ := q3 j c' (by simpa using hj)
          exact ⟨c0, by simpa using h3, h4⟩
    · cases h
theorem absEls_r {k : K} : ∀ {css : List (List C)} {ys : List (ty k)} {ns : List Nat}, absEls r k css = some (ys, ns) → (∀ cs, cs ∈ css → cs.length = width k) → ns = (css.flatMap id).filterMap ownOf ∧ ys.length = css.length ∧
    ∀ (t : Nat) (y : ty k), ys[t]? = some y → ∀ (j : Nat) (c : C), (cells k y)[j]? = some c → ∃ c0 c1 : C, (css.flatMap id)[t * width k + j]? = some c0 ∧ AbsR r c0 c1 ∧ (c = c1 ∨ c1 = nilsl ∧ ∃ k', c = .sl k' [])
  | [], ys, ns, h, hw => by
    simp only [absEls, Option.some.injEq, Prod.mk.injEq] at h
    obtain ⟨rfl, rfl⟩ := h
    exact ⟨rfl, rfl, fun t y hy => by simp at hy⟩
  | cs :: l, ys, ns, h, hw => by
    simp only [absEls] at h
    split at h
    · rename_i cs' n1 xs m1 h1 h2
      split at h
      · rename_i x hof
        simp only [Option.some.injEq, Prod.mk.injEq] at h
        obtain ⟨rfl, rfl⟩ := h
        obtain ⟨q1, q2, q3⟩ := absEls_r h2 (fun cs h => hw cs (by simp [h]))
        obtain ⟨p1, p2, p3⟩ := absCs_r h1
        have hcs : cs.length = width k := hw cs (by simp)
        refine ⟨by rw [p1, q1, List.flatMap_cons, List.filterMap_append]; rfl, by simp [q2], fun t y hy j c hc => ?_⟩
        have hjw : j < width k := by have := (List.getElem?_eq_some_iff.1 hc).1; rwa [cells_length] at this
        rw [List.flatMap_cons]
        cases t with
        | zero =>
          simp only [List.getElem?_cons_zero, Option.some.injEq] at hy
          subst hy
          obtain ⟨c1, s1, s2⟩ := (ofCells_nz hof).get hc
          obtain ⟨c0, s3, s4⟩ := p3 j c1 s1
          refine ⟨c0, c1, ?_, s4, s2⟩
          rw [Nat.zero_mul, Nat.zero_add, List.getElem?_append_left (by rw [show (id cs).length = width k from hcs]; exact hjw)]
          exact s3
        | succ t =>
          obtain ⟨c0, c1, s1, s2, s3⟩ := q3 t y (by simpa using hy) j c hc
          refine ⟨c0, c1, ?_, s2, s3⟩
          rw [List.getElem?_append_right (by rw [show (id cs).length = width k from hcs, Nat.add_mul]; omega), show (id cs).length = width k from hcs]
          rw [show (t + 1) * width k + j - width k = t * width k + j by rw [Nat.add_mul]; omega]
          exact s1
      · cases h
    · cases h
theorem absorb (hm : Mem R w0 μ r.b w) {b0 : Nat} {k : K} {xs : List (ty k)} {v : Value} {f : Nat → Nat → Value} {vals : List Value} (hD : DeepOK w0.heap.size w k xs none v f vals) (hown : ∀ B, (Gh.deep v f).own B → (μ b0).own B)
    {css : List (List C)} {ys : List (ty k)} {ns : List Nat} (habs : absEls r k css = some (ys, ns)) (hnd : nodupB ns = true) (hb0 : ∀ k' zs, look r.b b0 ≠ some (.arr k' zs)) {lvals : List Value} (hcs : CsR w μ (Good R μ) (css.flatMap id) lvals) (hw : ∀ cs, cs ∈ css → cs.length = width k)
    {v' : Value} (f2 : w'.ownsRow w0.heap.size (elemT k) (width k) v' (xs ++ ys).length (vals ++ lvals)) (f3 : w.grownBy w' v.ownBlock) (f4 : v'.ownBlock = v.ownBlock ∨ v'.ownBlock = some w.heap.size) :
    ∃ f', Step μ (fun n => if n = b0 then .deep v' f' else if n ∈ ns then .dead else μ n) w w' (fun n => n = b0 ∨ n ∈ ns) ∧ DeepOK w0.heap.size w' k (xs ++ ys) none v' f' (vals ++ lvals) := by
  obtain ⟨a1, a2, a3⟩ := absEls_r habs hw
  have hnd := nodupB_r hnd
  have hW := width_pos k
  have hvl : vals.length = xs.length * width k := hD.row.1
  -- what is under a name that is handed over
  have hname : ∀ {p q : Nat} {u : Value}, (css.flatMap id)[p]? = some (C.own q) → lvals[p]? = some u → q ∈ ns ∧ q ≠ b0 ∧ μ q = .row u ∧ ∃ k' zs lv, look r.b q = some (.arr k' zs) ∧ w.ownsRow w0.heap.size (elemT k') (width k') u zs.length lv ∧ CsR w μ (Good R μ) (flatC k' zs) lv := by
    intro p q u hp hu
    obtain ⟨u', hu', hcr⟩ := hcs.get hp
    rw [hu] at hu'
    obtain rfl := Option.some.inj hu'
    have hpl : p < (css.flatMap id).length := (List.getElem?_eq_some_iff.1 hp).1
    have hfl : (css.flatMap id).length = css.length * width k := by
      clear a1 a2 a3 habs hcs hp hpl
      induction css with
      | nil => simp
      | cons cs l ih =>
        rw [List.flatMap_cons, List.length_append, ih (fun cs h => hw cs (by simp [h])), List.length_cons, Nat.add_mul, Nat.one_mul, show (id cs).length = width k from hw cs (by simp)]
        omega
    have ht : p / width k < ys.length := by
      rw [a2, Nat.div_lt_iff_lt_mul hW]; omega
    have hjc : p % width k < (cells k ys[p / width k]).length := by rw [cells_length]; exact Nat.mod_lt p hW
    obtain ⟨c0, c1, s1, s2, s3⟩ := a3 (p / width k) _ (List.getElem?_eq_getElem ht) (p % width k) _ (List.getElem?_eq_getElem hjc)
    rw [show p / width k * width k + p % width k = p by rw [Nat.mul_comm]; exact Nat.div_add_mod p (width k), hp] at s1
    obtain rfl := Option.some.inj s1
    rcases s2 with ⟨q', k', zs, e1, e2, e3⟩ | ⟨v0, e1, _⟩
    · injection e1 with e1
      subst e1
      obtain ⟨t1, lv, t2, t3⟩ := own_row hm e2 hcr
      refine ⟨by rw [a1]; exact List.mem_filterMap.2 ⟨_, List.mem_of_getElem? hp, rfl⟩, fun e => hb0 k' zs (e ▸ e2), t1, k', zs, lv, e2, t2, t3⟩
    · cases e1
  have hns : ∀ q, q ∈ ns → ∃ (p : Nat) (u : Value), (css.flatMap id)[p]? = some (C.own q) ∧ lvals[p]? = some u := by
    intro q hq
    rw [a1] at hq
    obtain ⟨c, hc, ho⟩ := List.mem_filterMap.1 hq
    obtain ⟨p, hp, he⟩ := List.getElem_of_mem hc
    have hcq : c = .own q := by
      cases c <;> first | (cases ho; done) | (injection ho with ho; rw [ho])
    have hp' : (css.flatMap id)[p]? = some (C.own q) := by rw [List.getElem?_eq_getElem hp, he, hcq]
    obtain ⟨u, hu, _⟩ := hcs.get hp'
    exact ⟨p, u, hp', hu⟩
  have hnsb : b0 ∉ ns := fun h => by
    obtain ⟨p, u, h1, h2⟩ := hns b0 h
    exact (hname h1 h2).2.1 rfl
  let g : Nat → Value := fun p => match (css.flatMap id)[p]? with
    | some (.own _) => lvals.getD p (.slice none 0 0)
    | _ => .slice none 0 0
  have hg : ∀ p B, (g p).ownBlock = some B → ∃ (q : Nat) (u : Value), (css.flatMap id)[p]? = some (C.own q) ∧ lvals[p]? = some u ∧ g p = u ∧ u.ownBlock = some B := by
    intro p B hB
    simp only [g] at hB ⊢
    split at hB
    · rename_i q hp
      obtain ⟨u, hu, _⟩ := hcs.get hp
      have : lvals.getD p (.slice none 0 0) = u := by simp [List.getD_eq_getElem?_getD, hu]
      exact ⟨q, u, hp, hu, by simp [hp, hu], by rw [← this]; exact hB⟩
    · simp [Value.ownBlock] at hB
  let f' : Nat → Nat → Value := fun i j => if i < xs.length then f i j else if j < width k then g ((i - xs.length) * width k + j) else .slice none 0 0
  have hf' : ∀ i j B, (f' i j).ownBlock = some B → (i < xs.length ∧ (f i j).ownBlock = some B) ∨ (xs.length ≤ i ∧ j < width k ∧ (g ((i - xs.length) * width k + j)).ownBlock = some B) := by
    intro i j B hB
    by_cases e : i < xs.length
    · simp only [f', if_pos e] at hB; exact .inl ⟨e, hB⟩
    · by_cases e2 : j < width k
      · simp only [f', if_neg e, if_pos e2] at hB; exact .inr ⟨by omega, e2, hB⟩
      · simp [f', if_neg e, if_neg e2, Value.ownBlock] at hB
  have gown : ∀ p B, (g p).ownBlock = some B → ∃ q : Nat, q ∈ ns ∧ q ≠ b0 ∧ (css.flatMap id)[p]? = some (C.own q) ∧ (μ q).own B := by
    intro p B hB
    obtain ⟨q, u, h1, h2, h3, h4⟩ := hg p B hB
    obtain ⟨t1, t2, t3, _⟩ := hname h1 h2
    exact ⟨q, t1, t2, h1, by rw [t3]; exact h4⟩
  have m1 : ∀ {G : Gh}, (if b0 = b0 then G else if b0 ∈ ns then .dead else μ b0) = G := by intro G; simp
  refine ⟨f', ⟨⟨v.ownBlock, f3, fun B hB => ⟨b0, .inl rfl, hown B (.inl hB)⟩⟩, fun n hn => by simp only [not_or] at hn; simp [hn.1, hn.2], fun n B hn hB => ?_, fun m n B hm hn s1 s2 => ?_⟩, f2, fun i j B hB => ?_, fun i j i' j' B s1 s2 => ?_, fun i j B hB => ?_, fun i x hx j c hc => ?_⟩
  · rcases hn with rfl | hn
    · simp only [if_true] at hB
      rcases hB with hB | ⟨i, j, hB⟩
      · rcases f4 with f4 | f4
        · exact .inl ⟨n, .inl rfl, hown B (.inl (by rw [← f4]; exact hB))⟩
        · right; rw [f4] at hB; injection hB with hB; omega
      · rcases hf' i j B hB with ⟨_, hB⟩ | ⟨_, _, hB⟩
        · exact .inl ⟨n, .inl rfl, hown B (.inr ⟨i, j, hB⟩)⟩
        · obtain ⟨q, t1, _, _, t2⟩ := gown _ B hB
          exact .inl ⟨q, .inr t1, t2⟩
    · have : n ≠ b0 := fun e => hnsb (e ▸ hn)
      simp only [if_neg this, if_pos hn] at hB
      exact hB.elim
  · have dead : ∀ n, n ∈ ns → (if n = b0 then Gh.deep v' f' else if n ∈ ns then .dead else μ n) = .dead := by
      intro n hn
      have : n ≠ b0 := fun e => hnsb (e ▸ hn)
      simp [this, hn]
    rcases hm with rfl | hm
    · rcases hn with rfl | hn
      · rfl
      · simp only [dead n hn] at s2; exact s2.elim
    · simp only [dead m hm] at s1; exact s1.elim
  · rcases hf' i j B hB with ⟨_, hB⟩ | ⟨_, _, hB⟩
    · have := hD.lo i j B hB
      exact ⟨this.1, Nat.lt_of_lt_of_le this.2 f3.size⟩
    · obtain ⟨q, _, _, _, t2⟩ := gown _ B hB
      have := hm.blk q B t2
      exact ⟨this.1, Nat.lt_of_lt_of_le this.2 f3.size⟩
  · rcases hf' i j B s1 with ⟨t1, t2⟩ | ⟨t1, t2, t3⟩ <;> rcases hf' i' j' B s2 with ⟨t4, t5⟩ | ⟨t4, t5, t6⟩
    · exact hD.inj _ _ _ _ B t2 t5
    · obtain ⟨q, _, u1, _, u2⟩ := gown _ B t6
      exact absurd (hm.inj q b0 B u2 (hown B (.inr ⟨_, _, t2⟩))) u1
    · obtain ⟨q, _, u1, _, u2⟩ := gown _ B t3
      exact absurd (hm.inj q b0 B u2 (hown B (.inr ⟨_, _, t5⟩))) u1
    · obtain ⟨q, _, _, u1, u2⟩ := gown _ B t3
      obtain ⟨q', _, _, u3, u4⟩ := gown _ B t6
      obtain rfl := hm.inj q q' B u2 u4
      have := filterMap_inj (f := ownOf) (by rw [← a1]; exact hnd) u1 u3 rfl rfl
      have d1 : ((i - xs.length) * width k + j) / width k = i - xs.length := by rw [Nat.mul_comm, Nat.mul_add_div hW, Nat.div_eq_of_lt t2]; rfl
      have d2 : ((i' - xs.length) * width k + j') / width k = i' - xs.length := by rw [Nat.mul_comm, Nat.mul_add_div hW, Nat.div_eq_of_lt t5]; rfl
      have e1 : i - xs.length = i' - xs.length := by rw [← d1, ← d2, this]
      rw [e1] at this
      exact ⟨by omega, by omega⟩
  · rcases hf' i j B hB with ⟨_, hB⟩ | ⟨_, _, hB⟩
    · rcases f4 with f4 | f4
      · rw [f4]; exact hD.apart i j B hB
      · rw [f4]
        intro e
        injection e with e
        have := (hD.lo i j B hB).2
        omega
    · obtain ⟨q, _, t1, _, t2⟩ := gown _ B hB
      rcases f4 with f4 | f4
      · rw [f4]
        intro e
        exact t1 (hm.inj q b0 B t2 (hown B (.inl e)))
      · rw [f4]
        intro e
        injection e with e
        have := (hm.blk q B t2).2
        omega
  · by_cases hi : i < xs.length
    · rw [List.getElem?_append_left hi] at hx
      obtain ⟨u, s1, s2⟩ := hD.cell i x hx j c hc
      refine ⟨u, by rw [List.getElem?_append_left (List.getElem?_eq_some_iff.1 s1).1]; exact s1, ?_⟩
      have s3 := s2.kept f3 (fun B hB => fun e => hD.apart i j B hB e)
      cases c with
      | sl k' zs =>
        obtain ⟨s4, s5, s6⟩ := s3
        refine ⟨s4, fun hh => (by obtain ⟨_, hh, _⟩ := hh; cases hh), fun hh => ?_⟩
        obtain ⟨s7, s8⟩ := s6 hh
        exact ⟨by simp only [f', if_pos hi]; exact s7, s8⟩
      | _ => exact s3
    · have hi' : xs.length ≤ i := by omega
      rw [List.getElem?_append_right hi'] at hx
      have hjw : j < width k := by have := (List.getElem?_eq_some_iff.1 hc).1; rwa [cells_length] at this
      obtain ⟨c0, c1, s1, s2, s3⟩ := a3 (i - xs.length) x hx j c hc
      obtain ⟨u, hu, hcr⟩ := hcs.get s1
      have hpos : (vals ++ lvals)[i * width k + j]? = some u := by
        have e : i * width k + j - vals.length = (i - xs.length) * width k + j := by
          rw [hvl, Nat.sub_mul]
          have : xs.length * width k ≤ i * width k := Nat.mul_le_mul_right _ hi'
          omega
        rw [List.getElem?_append_right (by
          rw [hvl]
          have : xs.length * width k ≤ i * width k := Nat.mul_le_mul_right _ hi'
          omega), e]
        exact hu
      refine ⟨u, hpos, ?_⟩
      have hfij : f' i j = g ((i - xs.length) * width k + j) := by simp only [f', if_neg hi, if_pos hjw]
      rcases s2 with ⟨q, k', zs, rfl, e2, rfl⟩ | ⟨v0, rfl, rfl⟩
      · rcases s3 with rfl | ⟨s3, _⟩
        · obtain ⟨t1, t2, t3, k'', zs', lv, t4, t5, t6⟩ := hname s1 hu
          rw [e2] at t4
          cases t4
          have hgu : g ((i - xs.length) * width k + j) = u := by
            simp only [g, s1]
            simp [List.getD_eq_getElem?_getD, hu]
          have hflat : flatK k' = true := cells_plain k _ (List.mem_of_getElem? hc)
          refine ⟨hcr.one, fun hh => (by obtain ⟨_, hh, _⟩ := hh; cases hh), fun _ => ⟨by rw [hfij, hgu], hflat, lv, t5.kept f3 ?_, csr_flatv t6 (flatC_val hflat zs)⟩⟩
          cases hob : u.ownBlock with
          | none => exact .inl rfl
          | some B => exact .inr fun e => t2 (hm.inj q b0 B (by rw [t3]; exact hob) (hown B (.inl e.symm)))
        · cases s3
      · have hu0 : u = v0 := by cases hcr; rfl
        subst hu0
        rcases s3 with rfl | ⟨s3, k', rfl⟩
        · exact ⟨rfl, hcr.one⟩
        · simp only [nilsl, C.val.injEq] at s3
          subst s3
          have hgu : g ((i - xs.length) * width k + j) = .slice none 0 0 := by
            simp only [g, s1]
          refine ⟨rfl, fun hh => (by obtain ⟨_, hh, _⟩ := hh; cases hh), fun _ => ⟨by rw [hfij, hgu], cells_plain k _ (List.mem_of_getElem? hc), [], ⟨by simp, .inl ⟨rfl, rfl⟩⟩, trivial⟩⟩

theorem own_ne {k : K} {css : List (List C)} {ys : List (ty k)} {ns : List Nat} {n : Nat} {k2 : K} {xs : List (ty k2)} {h0 : Option (Int × Nat)} (habs : absEls r k css = some (ys, ns)) (hw : ∀ cs, cs ∈ css → cs.length = width k) (hc : C.own n ∈ css.flatMap id) (hl : look r.b n = some (.deep k2 xs h0)) : False := by
  have key : ∀ {l l' : List C} {ms : List Nat}, absCs r l = some (l', ms) → C.own n ∈ l → False := by
    intro l
    induction l with
    | nil => intro l' ms _ h; cases h
    | cons c l ih =>
      intro l' ms h hm
      simp only [absCs] at h
      split at h
      · rename_i c1 n1 l1 m1 h1 h2
        rcases List.mem_cons.1 hm with rfl | hm
        · simp only [absC, hl] at h1
          cases h1
        · exact ih h2 hm
      · cases h
  induction css generalizing ys ns with
  | nil => cases hc
  | cons cs l ih =>
    simp only [absEls] at habs
    split at habs
    · rename_i cs' n1 xs' m1 h1 h2
      rw [List.flatMap_cons, List.mem_append] at hc
      rcases hc with hc | hc
      · exact key h1 hc
      · exact ih h2 (fun cs h => hw cs (by simp [h])) hc
    · cases habs
theorem lit_row {q : Nat} {k : K} {css : List (List C)} {u : Value} (hm : Mem R w0 μ r.b w) (hl : look r.b q = some (.lit k css)) (h : CR w μ (Good R μ) (.own q) u) : ∃ lvals A cap, u = .slice A css.length cap ∧ (∀ ad, A = some ad → At w ad lvals) ∧ (A = none → css.length = 0) ∧ CsR w μ (Good R μ) (css.flatMap id) lvals ∧
    (∀ cs, cs ∈ css → cs.length = width k) ∧ lvals.length = css.length * width k := by
  obtain ⟨v, vals, h1, h2, h3, h4⟩ := hm.bl _ _ hl
  cases h with
  | own hb hs =>
    rw [h1] at hb
    injection hb with hb
    subst hb
    rcases h2.2 with ⟨g1, g2⟩ | ⟨g, cap, cur, g1, _⟩
    · exact ⟨vals, none, 0, by rw [g1, g2], by simp, fun _ => g2, h3, h4, h2.1⟩
    · exact ⟨vals, _, cap, g1, fun ad e j v hj => by cases e; exact h2.cells (by rw [g1]; rfl) j v hj, fun e => (by cases e), h3, h4, h2.1⟩
theorem snd_appendD (c : Ctx P R w0 N ops μ r a w ch) {cl : Call} (ho : o.op = .call cl) (hb : cl.callee = .builtin .append) {s x : AV} (h : rhos r ch cl.args.toList = some [s, x]) {t t' : TypeId} (ht : cl.argTypes.toList = [t, t']) (htt : Nat.beq t t' = true)
    {z : OR} (hz : evAppendD r o.dst t s x = some z) (hcs : z.cs.all id = true) (hfree : ∀ k, z.nb = some k → ∀ d, o.dst = some d → look r.b d = none) : Snd P R w0 r o z μ a w := by
  obtain ⟨h1, h2⟩ := rhos_r c h
  obtain ⟨p, q, hpq⟩ : ∃ p q, cl.args.toList = [p, q] := by
    match hl : cl.args.toList, h1 with
    | [p, q], _ => exact ⟨p, q, rfl⟩
  rw [hpq] at h2
  have hs := h2 0 p _ rfl rfl
  have hx := h2 1 q _ rfl rfl
  have ha : cl.args.map a.eval = #[a.eval p, a.eval q] := by
    apply Array.ext'
    simp [hpq]
  have he := Nat.eq_of_beq_eq_true htt
  subst he
  have ha' : cl.argTypes = #[t, t] := by apply Array.ext'; simpa using ht
  have hexec : ∀ {v' w'}, (Builtin.append_ #[t, t] o.type #[a.eval p, a.eval q]).run P w = .ok v' w' → (execOp a.eval o).run P w = .ok (.value v') w' := by
    intro v' w' hr
    simp [execOp, ho, resolve, hb, invoke, builtin, ha, ha', hr]
  have hsize := c.rel.mem.below.size
  unfold evAppendD at hz
  split at hz
  · rename_i k qn hk
    split at hz
    · rename_i k1 css hlq
      cases hb1 : (Nat.beq k.no k1.no && deepK k1) with
      | false => rw [hb1] at hz; cases hz
      | true =>
        rw [hb1, cond_true] at hz
        rw [Bool.and_eq_true] at hb1
        have hke := no_inj hb1.1
        subst hke
        obtain ⟨lvals, A, cap, e1, e2, e3, e4, e5, e6⟩ := lit_row c.rel.mem hlq (show CR w μ (Good R μ) (.own qn) (a.eval q) from hx)
        split at hz
        · rename_i b
          split at hz
          · rename_i k2 xs hl
            cases hb2 : Nat.beq k.no k2.no with
            | false => rw [hb2] at hz; cases hz
            | true =>
              rw [hb2, cond_true] at hz
              have hke2 := no_inj hb2
              subst hke2
              split at hz
              · rename_i ys ns habs
                cases hnd : nodupB ns with
                | false => rw [hnd] at hz; cases hz
                | true =>
                  rw [hnd, cond_true] at hz
                  have hz' := Option.some.inj hz
                  subst hz'
                  obtain ⟨f, vals, q1, q2, q3⟩ := deep_shape c.rel.mem hl (show CR w μ (Good R μ) (.own b) (a.eval p) from hs)
                  have hyl := (absEls_r habs e5).2.1
                  have hroom := roomy_iff.1 (show roomy xs.length ys.length (bytesT k) = true by simpa using hcs)
                  obtain ⟨v', w', f1, f2, f3, f4, f5⟩ := append_run0 c.tok hk o.type q2.row (e4.one) e6 e2 e3 hsize (by rw [← hyl]; exact hroom)
                  rw [← e1] at f1
                  obtain ⟨f', hst, hD'⟩ := absorb (b0 := b) c.rel.mem q2 (fun B hB => by rw [q1]; exact hB) habs hnd (fun k' zs e => by rw [hl] at e; cases e) e4 e5 (by rw [List.length_append, hyl]; exact f2) f3 f4
                  have hnsb : ∀ n, n ∈ ns → n ≠ b := fun n hn e => by
                    subst e
                    rw [(absEls_r habs e5).1] at hn
                    obtain ⟨c0, hc0, ho0⟩ := List.mem_filterMap.1 hn
                    have hcq : c0 = .own n := by
                      cases c0 <;> first | (cases ho0; done) | (injection ho0 with ho0; rw [ho0])
                    subst hcq
                    exact own_ne habs e5 hc0 hl
                  intro K Q hK
                  refine wp_value (hexec f1) (hK v' (fun n => if n = b then Gh.deep v' f' else if n ∈ ns then .dead else μ n) w' ⟨fun _ _ => CR.own (by simp [Gh.main]) f5, ?_, fun y zz hy => ?_⟩)
                  · have hfin : Mem R w0 (fun n => if n = b then Gh.deep v' f' else if n ∈ ns then .dead else μ n) (putBs (killL (b :: ns) r).b [(b, .deep k (xs ++ ys) none)]) w' := by
                      refine hst.memL (l := b :: ns) (r := r) c.rel.mem (fun n hn => ?_) (fun n hn => ?_) (fun n hn => ?_) (fun n hn hnl => ?_)
                      · rcases hn with rfl | hn
                        · refine ⟨fun kk hkk => ?_, fun hnn => ?_⟩
                          · simp only [putBs, look_put, if_true, Option.some.injEq] at hkk
                            subst hkk
                            exact ⟨v', f', _, by simp, hD'⟩
                          · simp only [putBs, look_put, if_true] at hnn; cases hnn
                        · refine ⟨fun kk hkk => ?_, fun _ => by simp [hnsb n hn, hn]⟩
                          simp only [putBs, look_put, if_neg (hnsb n hn), look_killL_b] at hkk
                          rw [if_pos (by simp [hn])] at hkk
                          cases hkk
                      · simp only [not_or] at hn
                        simp [putBs, look_put, hn.1]
                      · simpa using hn
                      · exact absurd (by simpa using hn) hnl
                    unfold after
                    cases o.dst <;> exact hfin
                  · refine hst.avr (killLV_r (b :: ns) hy) (fun n hn hS => ?_)
                    exact absurd (by simpa using hS) (killLV_ref (b :: ns) y n hn).1
              · cases hz
          · cases hz
        · split at hz
          · rename_i ys ns d habs hd
            cases hnd : nodupB ns with
            | false => rw [hnd] at hz; cases hz
            | true =>
              rw [hnd, cond_true] at hz
              have hz' := Option.some.inj hz
              subst hz'
              have hfd := hfree _ rfl d hd
              have hdead := c.rel.mem.dead d hfd
              have es := val_eq hs
              have hyl := (absEls_r habs e5).2.1
              have hroom := roomy_iff.1 (show roomy 0 ys.length (bytesT k) = true by simpa using hcs)
              obtain ⟨v', w', f1, f2, f3, f4, f5⟩ := append_run0 c.tok hk o.type (World.ownsRow_nil w w0.heap.size (elemT k) (width k)) (e4.one) e6 e2 e3 hsize (by rw [← hyl]; exact hroom)
              rw [← e1, ← es] at f1
              have hD0 : DeepOK w0.heap.size w k [] none (.slice none 0 0) (fun _ _ => .slice none 0 0) [] := by
                refine ⟨World.ownsRow_nil _ _ _ _, fun i j B hB => ?_, fun i j i' j' B hB => ?_, fun i j B hB => ?_, fun i x hx => by simp at hx⟩
                all_goals simp [Value.ownBlock] at hB
              obtain ⟨f', hst, hD'⟩ := absorb (b0 := d) c.rel.mem hD0 (fun B hB => by rcases hB with hB | ⟨_, _, hB⟩ <;> simp [Value.ownBlock] at hB) habs hnd (fun k' zs e => by rw [hfd] at e; cases e) e4 e5 (by simpa [hyl] using f2) f3 f4
              have hnsd : ∀ n, n ∈ ns → n ≠ d := fun n hn e => by
                subst e
                rw [(absEls_r habs e5).1] at hn
                obtain ⟨c0, hc0, ho0⟩ := List.mem_filterMap.1 hn
                have hcq : c0 = .own n := by
                  cases c0 <;> first | (cases ho0; done) | (injection ho0 with ho0; rw [ho0])
                subst hcq
                obtain ⟨i, hi, he⟩ := List.getElem_of_mem hc0
                obtain ⟨_, _, hcr⟩ := e4.get (i := i) (c := .own n) (by rw [List.getElem?_eq_getElem hi, he])
                exact hcr.dead_ref hdead (by simp [refC])
              intro K Q hK
              refine wp_value (hexec f1) (hK v' (fun n => if n = d then Gh.deep v' f' else if n ∈ ns then .dead else μ n) w' ⟨fun _ _ => CR.own (by simp [Gh.main]) f5, ?_, fun y zz hy => ?_⟩)
              · unfold after
                rw [hd]
                refine hst.memL (l := ns) (r := r) c.rel.mem (fun n hn => ?_) (fun n hn => ?_) (fun n hn => .inr hn) (fun n hn hnl => ?_)
                · rcases hn with rfl | hn
                  · refine ⟨fun kk hkk => ?_, fun hnn => ?_⟩
                    · simp only [putBs, look_put, if_true, Option.some.injEq] at hkk
                      subst hkk
                      exact ⟨v', f', _, by simp, by simpa using hD'⟩
                    · simp only [putBs, look_put, if_true] at hnn; cases hnn
                  · refine ⟨fun kk hkk => ?_, fun _ => by simp [hnsd n hn, hn]⟩
                    simp only [putBs, look_put, if_neg (hnsd n hn), look_killL_b, if_pos hn] at hkk
                    cases hkk
                · simp only [not_or] at hn
                  simp [putBs, look_put, hn.1]
                · rcases hn with rfl | hn
                  · exact .inr hfd
                  · exact absurd hn hnl
              · refine hst.avr (killLV_r ns hy) (fun n hn hS => ?_)
                have hr := killLV_ref ns y n hn
                rcases hS with rfl | hS
                · exact absurd hr.2 (hy.dead_ref hdead)
                · exact absurd hS hr.1
          · cases hz
        · cases hz
    · cases hz
  · cases hz
end
end Go.Proofs.Ytoknhjmcoleejaa
