/- A row of routers, and a ring. The plain law. No condition. -/
import Derived.Test.YtoknhjmcoleejaaPC
import Derived.Test.YtoknhjmcoleejaaGS
set_option linter.unusedVariables false
set_option linter.unusedSimpArgs false
set_option maxHeartbeats 4000000
namespace Go.Proofs.Ytoknhjmcoleejaa
open Go.RowKit
def S.rowC (cs : List UInt8) (i : Int) : Int := IntKind.i64.wrap (1 + IntKind.i64.wrap ((cs.getD i.toNat 0).toNat : Int))
def S.rowA (cs : List UInt8) (i : Int) : Link := ⟨1, IntKind.i64.wrap (i + 2), IntKind.i64.wrap (100 + i), S.rowC cs i⟩
def S.rowB (cs : List UInt8) (i : Int) : Link := ⟨1, i + 1, IntKind.i64.wrap (200 + i), S.rowC cs i⟩
def S.rowStep (cs : List UInt8) (i : Int) (s : List Lsa × Int) : List Lsa × Int :=
  (S.addLink (S.addLink s.1 i (S.rowA cs i)) (i + 1) (S.rowB cs i), IntKind.i64.wrap (s.2 + S.rowC cs i))
def S.rowN (cs : List UInt8) : Int := IntKind.i64.wrap ((cs.length : Int) + 1)
def S.rowM (cs : List UInt8) : Int := IntKind.i64.wrap (S.rowN cs - 1)
def S.rowZ (z : Int) : Int := IntKind.i64.wrap (1 + IntKind.i64.wrap z)
def S.row1 (cs : List UInt8) : List Lsa := S.iterI S.rtrStep ((S.rowN cs).toNat + 1 - 1) 1 []
def S.row2 (cs : List UInt8) : List Lsa × Int := S.iterI (S.rowStep cs) cs.length 0 (S.row1 cs, 0)
def S.rowP (cs : List UInt8) (z : Int) : Link := ⟨1, S.rowN cs, 300, S.rowZ z⟩
def S.rowQ (z : Int) : Link := ⟨1, 1, 301, S.rowZ z⟩
def S.row3a (cs : List UInt8) (z : Int) : List Lsa := S.addLink (S.row2 cs).1 0 (S.rowP cs z)
def S.row3 (cs : List UInt8) (z : Int) : List Lsa := S.addLink (S.row3a cs z) (S.rowM cs) (S.rowQ z)
def S.rowT (cs : List UInt8) : List Node := S.tree (S.map (S.row2 cs).1) ⟨1, 1⟩
def S.rowU (cs : List UInt8) (z : Int) : List Node := S.tree (S.map (S.row3 cs z)) ⟨1, 1⟩
def S.rowV (cs : List UInt8) : Vert := ⟨1, S.rowN cs⟩
/-! ### one link more -/
theorem la_add {o : List Lsa} {a : Nat} {l : Link} (h : a < o.length) (i : Nat) : la (S.addLink o (a : Int) l) i = if i = a then { la o a with links := (la o a).links ++ [l] } else la o i := by
  unfold S.addLink la
  rw [Int.toNat_natCast]
  simp only [List.getD_eq_getElem?_getD, List.getElem?_set]
  by_cases e : i = a
  · subst e
    simp [h]
  · rw [if_neg (fun e' => e e'.symm), if_neg e]
theorem head_add {o : List Lsa} {a : Nat} {l : Link} (h : a < o.length) (i : Nat) : (la (S.addLink o (a : Int) l) i).head = (la o i).head ∧ (la (S.addLink o (a : Int) l) i).routers = (la o i).routers := by
  rw [la_add h]
  split
  · rename_i e; subst e; exact ⟨rfl, rfl⟩
  · exact ⟨rfl, rfl⟩
theorem links_add {o : List Lsa} {a : Nat} {l k : Link} (h : a < o.length) (i : Nat) : k ∈ (la (S.addLink o (a : Int) l) i).links ↔ k ∈ (la o i).links ∨ (i = a ∧ k = l) := by
  rw [la_add h]
  split
  · rename_i e; subst e; simp
  · rename_i e; simp [e]
/-! ### the row -/
structure RowI (cs : List UInt8) (j : Nat) (o : List Lsa) : Prop where
  len : o.length = cs.length + 1
  head : ∀ i, i < cs.length + 1 → (la o i).head = ⟨0, 1, (i : Int) + 1, (i : Int) + 1, 0, 0, 0⟩
  rows : ∀ i, i < cs.length + 1 → (la o i).routers = []
  lk : ∀ i, i < cs.length + 1 → ∀ k, k ∈ (la o i).links → k.kind = 1 ∧ ((k.id = (i : Int) + 2 ∧ i < j ∧ k.cost = S.rowC cs i) ∨ (∃ q : Nat, i = q + 1 ∧ k.id = (q : Int) + 1 ∧ q < j ∧ k.cost = S.rowC cs q))
  fw : ∀ i, i < j → ∃ k, k ∈ (la o i).links ∧ k.id = (i : Int) + 2 ∧ k.cost = S.rowC cs i
  bw : ∀ i, i < j → ∃ k, k ∈ (la o (i + 1)).links ∧ k.id = (i : Int) + 1
  ok : S.gOk o (2 * (j : Int)) = true
theorem rowC_bd (cs : List UInt8) (i : Int) : 1 ≤ S.rowC cs i ∧ S.rowC cs i ≤ 256 := by
  unfold S.rowC
  rw [u8w]
  have := UInt8.toNat_lt (cs.getD i.toNat 0)
  rw [wrap_id (by omega) (by omega)]
  omega
theorem row_step {cs : List UInt8} {j : Nat} {o : List Lsa} {s : Int} (hN : cs.length ≤ 15) (hj : j < cs.length) (I : RowI cs j o) : RowI cs (j + 1) (S.rowStep cs j (o, s)).1 := by
  have hjl : j < o.length := by rw [I.len]; omega
  have hA : (S.rowA cs j).id = (j : Int) + 2 ∧ (S.rowA cs j).kind = 1 ∧ (S.rowA cs j).cost = S.rowC cs j := ⟨wrap_id (by omega) (by omega), rfl, rfl⟩
  have hB : (S.rowB cs j).id = (j : Int) + 1 ∧ (S.rowB cs j).kind = 1 ∧ (S.rowB cs j).cost = S.rowC cs j := ⟨rfl, rfl, rfl⟩
  have e : (S.rowStep cs j (o, s)).1 = S.addLink (S.addLink o (j : Int) (S.rowA cs j)) ((j + 1 : Nat) : Int) (S.rowB cs j) := rfl
  rw [e]
  generalize S.rowA cs j = A at hA
  generalize S.rowB cs j = B at hB
  have l1 := addLink_len o (j : Int) A
  have hj1 : j + 1 < (S.addLink o (j : Int) A).length := by rw [l1, I.len]; omega
  have l2 := addLink_len (S.addLink o (j : Int) A) ((j + 1 : Nat) : Int) B
  have mem : ∀ i k, k ∈ (la (S.addLink (S.addLink o (j : Int) A) ((j + 1 : Nat) : Int) B) i).links ↔ (k ∈ (la o i).links ∨ (i = j ∧ k = A)) ∨ (i = j + 1 ∧ k = B) := by
    intro i k
    rw [links_add hj1, links_add hjl]
  refine ⟨by rw [l2, l1]; exact I.len, fun i hi => ?_, fun i hi => ?_, fun i hi k hk => ?_, fun i hi => ?_, fun i hi => ?_, ?_⟩
  · rw [(head_add hj1 i).1, (head_add hjl i).1]; exact I.head i hi
  · rw [(head_add hj1 i).2, (head_add hjl i).2]; exact I.rows i hi
  · rw [mem] at hk
    rcases hk with (hk | ⟨rfl, rfl⟩) | ⟨rfl, rfl⟩
    · obtain ⟨h1, h2⟩ := I.lk i hi k hk
      refine ⟨h1, ?_⟩
      rcases h2 with ⟨a, b, c⟩ | ⟨q, a, b, c, d⟩
      · exact .inl ⟨a, by omega, c⟩
      · exact .inr ⟨q, a, b, by omega, d⟩
    · exact ⟨hA.2.1, .inl ⟨hA.1, by omega, hA.2.2⟩⟩
    · exact ⟨hB.2.1, .inr ⟨j, rfl, hB.1, by omega, hB.2.2⟩⟩
  · by_cases h : i = j
    · subst h
      exact ⟨A, (mem _ _).2 (.inl (.inr ⟨rfl, rfl⟩)), hA.1, hA.2.2⟩
    · obtain ⟨k, hk, h1⟩ := I.fw i (by omega)
      exact ⟨k, (mem _ _).2 (.inl (.inl hk)), h1⟩
  · by_cases h : i = j
    · subst h
      exact ⟨B, (mem _ _).2 (.inr ⟨rfl, rfl⟩), hB.1⟩
    · obtain ⟨k, hk, h1⟩ := I.bw i (by omega)
      exact ⟨k, (mem _ _).2 (.inl (.inl hk)), h1⟩
  · have g1 := gOk_add (l := A) I.ok (a := (j : Int)) (by rw [inb_iff]; omega)
    have g2 := gOk_add (l := B) g1 (a := ((j + 1 : Nat) : Int)) (by rw [inb_iff]; omega)
    exact gOk_mono g2 (by omega)
/-- What the first links cost. -/
def psum (cs : List UInt8) : Nat → Int
  | 0 => 0
  | j + 1 => psum cs j + S.rowC cs j
theorem psum_bd (cs : List UInt8) : ∀ j, 0 ≤ psum cs j ∧ psum cs j ≤ 256 * (j : Int)
  | 0 => by simp [psum]
  | j + 1 => by
    have := psum_bd cs j
    have := rowC_bd cs j
    simp only [psum]
    omega
theorem psum_le (cs : List UInt8) {i j : Nat} (h : i ≤ j) : psum cs i ≤ psum cs j := by
  induction j with
  | zero =>
    obtain rfl : i = 0 := by omega
    exact Int.le_refl _
  | succ j ih =>
    by_cases e : i = j + 1
    · subst e; exact Int.le_refl _
    · have := ih (by omega)
      have := rowC_bd cs j
      simp only [psum]
      omega
theorem row_iter {cs : List UInt8} (hN : cs.length ≤ 15) : ∀ (n j : Nat) (o : List Lsa), j + n ≤ cs.length → RowI cs j o → RowI cs (j + n) (S.iterI (S.rowStep cs) n j (o, psum cs j)).1 ∧ (S.iterI (S.rowStep cs) n j (o, psum cs j)).2 = psum cs (j + n)
  | 0, j, o, h, I => ⟨I, rfl⟩
  | n + 1, j, o, h, I => by
    have hb := psum_bd cs j
    have hc := rowC_bd cs j
    have e : S.rowStep cs j (o, psum cs j) = ((S.rowStep cs j (o, psum cs j)).1, psum cs (j + 1)) := by
      have : IntKind.i64.wrap (psum cs j + S.rowC cs j) = psum cs j + S.rowC cs j := wrap_id (by omega) (by omega)
      exact Prod.ext rfl this
    have r := row_iter hN n (j + 1) (S.rowStep cs j (o, psum cs j)).1 (by omega) (row_step hN (by omega) I)
    simp only [S.iterI]
    rw [show j + (n + 1) = j + 1 + n by omega]
    rw [e]
    exact r
theorem rtr_get : ∀ (n : Nat) (i : Int) (o : List Lsa), ∃ r, S.iterI S.rtrStep n i o = o ++ r ∧ r.length = n ∧ ∀ q, q < n → la r q = S.rtr (i + q)
  | 0, i, o => ⟨[], by simp [S.iterI], rfl, fun q h => by omega⟩
  | n + 1, i, o => by
    obtain ⟨r, h1, h2, h3⟩ := rtr_get n (i + 1) (S.rtrStep i o)
    refine ⟨S.rtr i :: r, by simp only [S.iterI]; rw [h1]; simp [S.rtrStep], by simp [h2], fun q hq => ?_⟩
    cases q with
    | zero => simp [la]
    | succ q =>
      have := h3 q (by omega)
      rw [show i + ((q + 1 : Nat) : Int) = i + 1 + q by omega, ← this]
      simp [la]
section
variable {cs : List UInt8} (h1 : 1 ≤ cs.length) (h15 : cs.length ≤ 15)
include h15
theorem rowN_eq : S.rowN cs = (cs.length : Int) + 1 := wrap_id (by omega) (by omega)
theorem rowM_eq : S.rowM cs = (cs.length : Int) := by
  unfold S.rowM
  rw [rowN_eq h15]
  rw [wrap_id (by omega) (by omega)]
  omega
theorem row1_I : RowI cs 0 (S.row1 cs) := by
  unfold S.row1
  rw [rowN_eq h15]
  obtain ⟨r, e, l, g⟩ := rtr_get (((cs.length : Int) + 1).toNat + 1 - 1) 1 []
  rw [e]
  simp only [List.nil_append]
  have hl : r.length = cs.length + 1 := by rw [l]; omega
  have hg : ∀ q, q < cs.length + 1 → la r q = S.rtr ((q : Int) + 1) := fun q hq => by rw [g q (by omega), Int.add_comm]
  refine ⟨hl, fun i hi => by rw [hg i hi]; rfl, fun i hi => by rw [hg i hi]; rfl, fun i hi k hk => ?_, fun i hi => by omega, fun i hi => by omega, ?_⟩
  · rw [hg i hi] at hk
    cases hk
  · simp only [S.gOk, List.all_eq_true, Bool.and_eq_true, decide_eq_true_eq]
    intro x hx
    obtain ⟨i, hi, rfl⟩ := mem_la hx
    rw [hg i (by omega)]
    exact ⟨Int.le_refl 0, Nat.zero_le 6⟩
theorem row2_I : RowI cs cs.length (S.row2 cs).1 ∧ (S.row2 cs).2 = psum cs cs.length := by
  have := row_iter h15 cs.length 0 (S.row1 cs) (by omega) (row1_I h15)
  rw [Nat.zero_add] at this
  exact this
end
theorem row_heads {cs : List UInt8} {o : List Lsa} (I : RowI cs cs.length o) : Heads o (cs.length + 1) := ⟨I.len, I.head, I.rows, fun i hi k hk => (I.lk i hi k hk).1⟩
/-- Routers reach as far as edges lead from each to the next. -/
theorem reach_all {m : TMap} {t : List Node} {cs : List UInt8} {N : Nat} (Sh : Short m ⟨1, 1⟩ t) (hv : ∀ i, i < N + 1 → (⟨1, (i : Int) + 1⟩ : Vert) ∈ m.verts) (he : ∀ i, i < N → ∃ e, e ∈ m.edges ∧ e.src = ⟨1, (i : Int) + 1⟩ ∧ e.dst = ⟨1, (i : Int) + 2⟩ ∧ e.cost = S.rowC cs i) :
    ∀ i, i < N + 1 → ∃ a, a < t.length ∧ (nd t a).vert = ⟨1, (i : Int) + 1⟩ ∧ (nd t a).cost ≤ psum cs i
  | 0, h => by
    obtain ⟨r, hr⟩ := Sh.root
    exact ⟨0, by rw [hr]; simp, by rw [hr]; rfl, by rw [hr]; exact Int.le_refl 0⟩
  | i + 1, h => by
    obtain ⟨a, ha, h2, h3⟩ := reach_all Sh hv he i (by omega)
    obtain ⟨e, he1, he2, he3, he4⟩ := he i (by omega)
    have e4 : ((i + 1 : Nat) : Int) + 1 = (i : Int) + 2 := by omega
    obtain ⟨b, hb, hb2, hb3⟩ := Sh.rel e he1 a ha (by rw [h2, he2]) (by rw [he3, ← e4]; exact hv (i + 1) h)
    exact ⟨b, hb, by rw [hb2, he3, e4], by simp only [psum]; omega⟩
theorem len_all {m : TMap} {t : List Node} {N : Nat} (Sh : Short m ⟨1, 1⟩ t) (hv : ∀ v, v ∈ m.verts → ∃ i, i < N + 1 ∧ v = (⟨1, (i : Int) + 1⟩ : Vert)) (hr : ∀ i, i < N + 1 → ∃ a, a < t.length ∧ (nd t a).vert = ⟨1, (i : Int) + 1⟩) : t.length = N + 1 := by
  have hnd : ∀ i, i < t.length → nd t i ∈ t := fun i hi => by
    have : nd t i = t[i] := by simp [nd, List.getD_eq_getElem?_getD, List.getElem?_eq_getElem hi]
    rw [this]; exact List.getElem_mem hi
  have hmem : ∀ x, x ∈ t → ∃ i, i < t.length ∧ x = nd t i := fun x hx => by
    obtain ⟨i, hi, rfl⟩ := List.getElem_of_mem hx
    exact ⟨i, hi, by simp [nd, List.getD_eq_getElem?_getD, List.getElem?_eq_getElem hi]⟩
  have a := nodup_len (t.map (·.vert)) ((List.range (N + 1)).map fun (i : Nat) => (⟨1, (i : Int) + 1⟩ : Vert)) (short_nodup Sh) (fun v h => by
    obtain ⟨x, hx, rfl⟩ := List.mem_map.1 h
    obtain ⟨i, hi, rfl⟩ := hmem x hx
    obtain ⟨q, hq, e⟩ := hv _ (Sh.isv i hi)
    exact List.mem_map.2 ⟨q, by simpa using hq, e.symm⟩)
  have nd2 : ((List.range (N + 1)).map fun (i : Nat) => (⟨1, (i : Int) + 1⟩ : Vert)).Nodup := by
    rw [List.nodup_iff_pairwise_ne, List.pairwise_map]
    refine List.Pairwise.imp ?_ (List.nodup_iff_pairwise_ne.1 (List.nodup_range))
    intro p q h e
    have := congrArg Vert.id e
    simp only at this
    omega
  have b := nodup_len ((List.range (N + 1)).map fun (i : Nat) => (⟨1, (i : Int) + 1⟩ : Vert)) (t.map (·.vert)) nd2 (fun v h => by
    obtain ⟨i, hi, rfl⟩ := List.mem_map.1 h
    obtain ⟨q, hq, e⟩ := hr i (by simpa using hi)
    exact List.mem_map.2 ⟨nd t q, hnd q hq, e⟩)
  simp only [List.length_map, List.length_range] at a b
  omega
/-! ### the trees of both -/
abbrev rv (i : Nat) : Vert := ⟨1, (i : Int) + 1⟩
def dP (cs : List UInt8) (v : Vert) : Int := psum cs (v.id - 1).toNat
theorem dP_rv (cs : List UInt8) (i : Nat) : dP cs (rv i) = psum cs i := by
  unfold dP
  rw [show ((rv i).id - 1).toNat = i by simp only [rv]; omega]
/-- An edge along the row, or back. -/
def RowE (cs : List UInt8) (e : Edge) : Prop := ∃ i, i < cs.length ∧ e.cost = S.rowC cs i ∧ ((e.src = rv i ∧ e.dst = rv (i + 1)) ∨ (e.src = rv (i + 1) ∧ e.dst = rv i))
theorem row_link {cs : List UInt8} {i j : Nat} {k : Link} (hj : k.id = (j : Int) + 1) (h : (k.id = (i : Int) + 2 ∧ i < cs.length ∧ k.cost = S.rowC cs i) ∨ (∃ q : Nat, i = q + 1 ∧ k.id = (q : Int) + 1 ∧ q < cs.length ∧ k.cost = S.rowC cs q)) : RowE cs ⟨rv i, rv j, k.cost, k.data⟩ := by
  rcases h with ⟨a, b, c⟩ | ⟨q, a, b, c, d⟩
  · obtain rfl : j = i + 1 := by omega
    exact ⟨i, b, c, .inl ⟨rfl, rfl⟩⟩
  · obtain rfl : j = q := by omega
    subst a
    exact ⟨j, c, d, .inr ⟨rfl, rfl⟩⟩
theorem rowE_bd {cs : List UInt8} {e : Edge} (h : RowE cs e) : 0 ≤ e.cost ∧ e.cost ≤ 65536 := by
  obtain ⟨i, _, h, _⟩ := h
  have := rowC_bd cs i
  omega
theorem rowE_pot {cs : List UInt8} {e : Edge} (h : RowE cs e) : dP cs e.dst ≤ dP cs e.src + e.cost := by
  obtain ⟨i, _, hc, ⟨a, b⟩ | ⟨a, b⟩⟩ := h
  · rw [a, b, dP_rv, dP_rv, hc]
    exact Int.le_refl _
  · have := rowC_bd cs i
    rw [a, b, dP_rv, dP_rv, hc]
    simp only [psum]
    omega
section
variable {cs : List UInt8} (h15 : cs.length ≤ 15)
include h15
theorem row_edges {e : Edge} (he : e ∈ (S.map (S.row2 cs).1).edges) : RowE cs e := by
  obtain ⟨I, _⟩ := row2_I h15
  obtain ⟨i, hi, k, hk, j, hj, hid, _, rfl⟩ := (heads_edges (row_heads I)).1 he
  exact row_link hid (I.lk i hi k hk).2
theorem rowT_short : Short (S.map (S.row2 cs).1) (rv 0) (S.rowT cs) := by
  obtain ⟨I, _⟩ := row2_I h15
  have hM : S.okM (S.row2 cs).1 = true := by
    have hg := I.ok
    simp only [S.gOk, List.all_eq_true, Bool.and_eq_true, decide_eq_true_eq] at hg
    simp only [S.okM, Bool.and_eq_true, decide_eq_true_eq, List.all_eq_true]
    refine ⟨by rw [I.len]; omega, fun x hx => ?_⟩
    have := hg x hx
    simp only [S.okL, Bool.and_eq_true, decide_eq_true_eq]
    omega
  exact tree_short (fun e he => rowE_bd (row_edges h15 he)) (map_len hM).1 ((heads_verts (row_heads I)).2 ⟨0, by omega, rfl⟩)
theorem rowT_r : (S.rowT cs).length = cs.length + 1 ∧ ∃ a : Nat, a < (S.rowT cs).length ∧ S.place (S.rowT cs) (S.rowV cs) = a ∧ (nd (S.rowT cs) a).cost = psum cs cs.length := by
  obtain ⟨I, _⟩ := row2_I h15
  have Sh := rowT_short h15
  have H := row_heads I
  have he : ∀ i, i < cs.length → ∃ e, e ∈ (S.map (S.row2 cs).1).edges ∧ e.src = (⟨1, (i : Int) + 1⟩ : Vert) ∧ e.dst = ⟨1, (i : Int) + 2⟩ ∧ e.cost = S.rowC cs i := by
    intro i hi
    obtain ⟨k, hk, k1, k2⟩ := I.fw i hi
    obtain ⟨k', hk', k3⟩ := I.bw i hi
    have e4 : ((i + 1 : Nat) : Int) + 1 = (i : Int) + 2 := by omega
    exact ⟨_, (heads_edges H).2 ⟨i, by omega, k, hk, i + 1, by omega, by omega, ⟨k', hk', k3⟩, rfl⟩, rfl, by simp only [e4], k2⟩
  have hr := reach_all (N := cs.length) Sh (fun i hi => (heads_verts H).2 ⟨i, hi, rfl⟩) he
  have hl := len_all (N := cs.length) Sh (fun v hv => (heads_verts H).1 hv) (fun i hi => by obtain ⟨a, b, c, _⟩ := hr i hi; exact ⟨a, b, c⟩)
  refine ⟨hl, ?_⟩
  obtain ⟨a, ha, hv, hc⟩ := hr cs.length (by omega)
  have hp := Sh.dist a ha
  rw [hv] at hp
  have hd := pot_le Sh (dP cs) (by rw [dP_rv]; exact Int.le_refl 0) (fun e he => rowE_pot (row_edges h15 he)) a a (Nat.le_refl _) ha
  rw [hv, dP_rv] at hd
  refine ⟨a, ha, ?_, by omega⟩
  unfold S.rowV
  rw [rowN_eq h15]
  exact hp
/-! ### the ring -/
omit h15 in
theorem rowZ_bd {z : Int} (h0 : 0 ≤ z) (h1 : z ≤ 255) : S.rowZ z = 1 + z := by
  unfold S.rowZ
  rw [wrap_id (x := z) (by omega) (by omega), wrap_id (by omega) (by omega)]
theorem row3_links {z : Int} {i : Nat} {k : Link} : k ∈ (la (S.row3 cs z) i).links ↔ (k ∈ (la (S.row2 cs).1 i).links ∨ (i = 0 ∧ k = S.rowP cs z)) ∨ (i = cs.length ∧ k = S.rowQ z) := by
  obtain ⟨I, _⟩ := row2_I h15
  unfold S.row3 S.row3a
  rw [rowM_eq h15]
  have h0 : 0 < (S.row2 cs).1.length := by rw [I.len]; omega
  have hN : cs.length < (S.addLink (S.row2 cs).1 ((0 : Nat) : Int) (S.rowP cs z)).length := by rw [addLink_len, I.len]; omega
  have e : S.addLink (S.row2 cs).1 0 (S.rowP cs z) = S.addLink (S.row2 cs).1 ((0 : Nat) : Int) (S.rowP cs z) := rfl
  rw [e, links_add hN, links_add h0]
theorem row3_heads {z : Int} : Heads (S.row3 cs z) (cs.length + 1) := by
  obtain ⟨I, _⟩ := row2_I h15
  have h0 : 0 < (S.row2 cs).1.length := by rw [I.len]; omega
  have hN : cs.length < (S.addLink (S.row2 cs).1 ((0 : Nat) : Int) (S.rowP cs z)).length := by rw [addLink_len, I.len]; omega
  have e : S.row3 cs z = S.addLink (S.addLink (S.row2 cs).1 ((0 : Nat) : Int) (S.rowP cs z)) (cs.length : Int) (S.rowQ z) := by
    unfold S.row3 S.row3a
    rw [rowM_eq h15]
    rfl
  refine ⟨by rw [e, addLink_len, addLink_len]; exact I.len, fun i hi => ?_, fun i hi => ?_, fun i hi k hk => ?_⟩
  · rw [e, (head_add hN i).1, (head_add h0 i).1]; exact I.head i hi
  · rw [e, (head_add hN i).2, (head_add h0 i).2]; exact I.rows i hi
  · rcases (row3_links h15).1 hk with (hk | ⟨_, rfl⟩) | ⟨_, rfl⟩
    · exact (I.lk i hi k hk).1
    · rfl
    · rfl
theorem row3_okM {z : Int} : S.gOk (S.row3 cs z) 32 = true ∧ S.gOk (S.row3a cs z) 31 = true ∧ S.okM (S.row3 cs z) = true := by
  obtain ⟨I, _⟩ := row2_I h15
  have g1 := gOk_add (l := S.rowP cs z) I.ok (a := 0) (by rw [inb_iff, I.len]; omega)
  have g2 := gOk_add (l := S.rowQ z) g1 (a := S.rowM cs) (by rw [inb_iff, addLink_len, I.len, rowM_eq h15]; omega)
  have g3 := gOk_mono g2 (d := 32) (by omega)
  refine ⟨g3, gOk_mono g1 (by omega), ?_⟩
  have hg : S.gOk (S.row3 cs z) 32 = true := g3
  simp only [S.gOk, List.all_eq_true, Bool.and_eq_true, decide_eq_true_eq] at hg
  simp only [S.okM, Bool.and_eq_true, decide_eq_true_eq, List.all_eq_true]
  refine ⟨by rw [(row3_heads h15).len]; omega, fun x hx => ?_⟩
  have := hg x hx
  simp only [S.okL, Bool.and_eq_true, decide_eq_true_eq]
  omega
/-- An edge of the ring. -/
def RingE (cs : List UInt8) (z : Int) (e : Edge) : Prop := RowE cs e ∨ (e.cost = S.rowZ z ∧ ((e.src = rv 0 ∧ e.dst = rv cs.length) ∨ (e.src = rv cs.length ∧ e.dst = rv 0)))
theorem ring_edges {z : Int} {e : Edge} (he : e ∈ (S.map (S.row3 cs z)).edges) : RingE cs z e := by
  obtain ⟨I, _⟩ := row2_I h15
  obtain ⟨i, hi, k, hk, j, hj, hid, _, rfl⟩ := (heads_edges (row3_heads h15)).1 he
  rcases (row3_links h15).1 hk with (hk | ⟨rfl, rfl⟩) | ⟨rfl, rfl⟩
  · exact .inl (row_link hid (I.lk i hi k hk).2)
  · refine .inr ⟨rfl, .inl ⟨rfl, ?_⟩⟩
    have : S.rowN cs = (j : Int) + 1 := hid
    rw [rowN_eq h15] at this
    obtain rfl : j = cs.length := by omega
    rfl
  · refine .inr ⟨rfl, .inr ⟨rfl, ?_⟩⟩
    have : (1 : Int) = (j : Int) + 1 := hid
    obtain rfl : j = 0 := by omega
    rfl
end
def dU (cs : List UInt8) (z : Int) (v : Vert) : Int := min (dP cs v) (S.rowZ z + (psum cs cs.length - dP cs v))
theorem ring_pot {cs : List UInt8} {z : Int} (hz : 1 ≤ S.rowZ z) {e : Edge} (h : RingE cs z e) : dU cs z e.dst ≤ dU cs z e.src + e.cost := by
  unfold dU
  rcases h with h | ⟨hc, ⟨a, b⟩ | ⟨a, b⟩⟩
  · have h1 := rowE_pot h
    have h2 : dP cs e.src ≤ dP cs e.dst + e.cost := by
      obtain ⟨i, _, hc, ⟨a, b⟩ | ⟨a, b⟩⟩ := h
      · have := rowC_bd cs i
        rw [a, b, dP_rv, dP_rv, hc]
        simp only [psum]
        omega
      · rw [a, b, dP_rv, dP_rv, hc]
        exact Int.le_refl _
    omega
  · rw [a, b, dP_rv, dP_rv, hc]
    have := psum_bd cs cs.length
    simp only [psum]
    omega
  · rw [a, b, dP_rv, dP_rv, hc]
    have := psum_bd cs cs.length
    simp only [psum]
    omega
theorem rowU_r {cs : List UInt8} (h15 : cs.length ≤ 15) {z : Int} (h0 : 0 ≤ z) (h1 : z ≤ 255) : (S.rowU cs z).length ≤ 64 ∧ ∃ a : Nat, a < (S.rowU cs z).length ∧ S.place (S.rowU cs z) (S.rowV cs) = a ∧ (nd (S.rowU cs z) a).cost = if S.rowZ z < psum cs cs.length then S.rowZ z else psum cs cs.length := by
  obtain ⟨I, _⟩ := row2_I h15
  have H := row3_heads (z := z) h15
  have hz := rowZ_bd h0 h1
  have hM := (row3_okM (z := z) h15).2.2
  have Sh : Short (S.map (S.row3 cs z)) (rv 0) (S.rowU cs z) := by
    refine tree_short (fun e he => ?_) (map_len hM).1 ((heads_verts H).2 ⟨0, by omega, rfl⟩)
    rcases ring_edges h15 he with h | ⟨h, _⟩
    · exact rowE_bd h
    · omega
  have he : ∀ i, i < cs.length → ∃ e, e ∈ (S.map (S.row3 cs z)).edges ∧ e.src = (⟨1, (i : Int) + 1⟩ : Vert) ∧ e.dst = ⟨1, (i : Int) + 2⟩ ∧ e.cost = S.rowC cs i := by
    intro i hi
    obtain ⟨k, hk, k1, k2⟩ := I.fw i hi
    obtain ⟨k', hk', k3⟩ := I.bw i hi
    have e4 : ((i + 1 : Nat) : Int) + 1 = (i : Int) + 2 := by omega
    exact ⟨_, (heads_edges H).2 ⟨i, by omega, k, (row3_links h15).2 (.inl (.inl hk)), i + 1, by omega, by omega, ⟨k', (row3_links h15).2 (.inl (.inl hk')), k3⟩, rfl⟩, rfl, by simp only [e4], k2⟩
  have hr := reach_all (N := cs.length) Sh (fun i hi => (heads_verts H).2 ⟨i, hi, rfl⟩) he
  have hl := len_all (N := cs.length) Sh (fun v hv => (heads_verts H).1 hv) (fun i hi => by obtain ⟨a, b, c, _⟩ := hr i hi; exact ⟨a, b, c⟩)
  refine ⟨by omega, ?_⟩
  obtain ⟨a, ha, hv, hc⟩ := hr cs.length (by omega)
  have hp := Sh.dist a ha
  -- the short cut
  have hs : (⟨rv 0, rv cs.length, S.rowZ z, 300⟩ : Edge) ∈ (S.map (S.row3 cs z)).edges := by
    refine (heads_edges H).2 ⟨0, by omega, S.rowP cs z, (row3_links h15).2 (.inl (.inr ⟨rfl, rfl⟩)), cs.length, by omega, rowN_eq h15, ⟨S.rowQ z, (row3_links h15).2 (.inr ⟨rfl, rfl⟩), rfl⟩, rfl⟩
  obtain ⟨r, hroot⟩ := Sh.root
  have hpos : 0 < (S.rowU cs z).length := by rw [hroot]; simp
  obtain ⟨b, hb, hbv, hbc⟩ := Sh.rel _ hs 0 hpos (by rw [hroot]; rfl) ((heads_verts H).2 ⟨cs.length, by omega, rfl⟩)
  have hq := Sh.dist b hb
  have hab : a = b := by
    rw [hbv] at hq
    rw [hv] at hp
    rw [hp] at hq
    omega
  subst hab
  have hc0 : (nd (S.rowU cs z) 0).cost = 0 := by rw [hroot]; rfl
  have hbc' : (nd (S.rowU cs z) a).cost ≤ S.rowZ z := by
    have : (nd (S.rowU cs z) a).cost ≤ (nd (S.rowU cs z) 0).cost + S.rowZ z := hbc
    omega
  have hd := pot_le Sh (dU cs z) (by unfold dU; rw [dP_rv]; simp only [psum]; omega) (fun e he => ring_pot (by omega) (ring_edges h15 he)) a a (Nat.le_refl _) ha
  rw [hv] at hp hd
  have e1 : dU cs z (⟨1, (cs.length : Int) + 1⟩ : Vert) = min (psum cs cs.length) (S.rowZ z + (psum cs cs.length - psum cs cs.length)) := by
    unfold dU
    rw [dP_rv cs cs.length]
  rw [e1] at hd
  refine ⟨a, ha, ?_, ?_⟩
  · unfold S.rowV
    rw [rowN_eq h15]
    exact hp
  · split <;> omega
end Go.Proofs.Ytoknhjmcoleejaa
