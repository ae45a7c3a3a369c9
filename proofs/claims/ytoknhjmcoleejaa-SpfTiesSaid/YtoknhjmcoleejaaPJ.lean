/- The map of routers that tie. The plain law. No condition. -/
import Derived.Test.YtoknhjmcoleejaaPI
import Derived.Test.YtoknhjmcoleejaaGX
set_option linter.unusedVariables false
set_option linter.unusedSimpArgs false
set_option maxHeartbeats 4000000
namespace Go.Proofs.Ytoknhjmcoleejaa
open Go.RowKit
def S.tieA : Lsa := ⟨⟨0, 1, 1, 1, 0, 0, 0⟩, 0, [], 0, [], []⟩
def S.tieB : Lsa := ⟨⟨0, 1, 50, 50, 0, 0, 0⟩, 0, [], 0, [], []⟩
def S.tieR (c : Int) (k : Nat) : List Lsa × Lsa × Lsa := S.ties c k ([], S.tieA, S.tieB)
def noR (x : Lsa) : Lsa := { x with routers := [], verts := [] }
def S.tieF (c : Int) (k : Nat) : List Lsa := (S.tieR c k).1 ++ [noR (S.tieR c k).2.1, noR (S.tieR c k).2.2]
def S.tieT (c d : Int) (k : Nat) : List Lsa := ((S.tieR c k).1 ++ [⟨⟨0, 2, 900, 1, 0, 0, 0⟩, 0, [], 24, [1, 50], []⟩]) ++
  [noR { (S.tieR c k).2.1 with links := (S.tieR c k).2.1.links ++ [⟨2, 900, 901, d⟩] }, noR { (S.tieR c k).2.2 with links := (S.tieR c k).2.2.links ++ [⟨2, 900, 902, 1⟩] }]
def tV (k : Nat) : List Vert := r1 :: ((List.range k).map fun i => ri i) ++ [r50]
def tE (c : Int) (k : Nat) (a b d : List Edge) : List Edge :=
  ((List.range k).reverse.map fun i => (⟨r1, ri i, c, (i : Int) + 302⟩ : Edge)) ++ (a ++ (((List.range k).flatMap fun i => [(⟨ri i, r1, c, (i : Int) + 102⟩ : Edge), ⟨ri i, r50, c, (i : Int) + 202⟩]) ++ (((List.range k).reverse.map fun i => (⟨r50, ri i, c, (i : Int) + 402⟩ : Edge)) ++ (b ++ d))))
theorem tieF_map (c : Int) {k : Nat} (h1 : 1 ≤ k) (h6 : k ≤ 6) : (S.map (S.tieF c k)).verts = tV k ∧ (S.map (S.tieF c k)).edges = tE c k [] [] [] := by
  obtain rfl | rfl | rfl | rfl | rfl | rfl : k = 1 ∨ k = 2 ∨ k = 3 ∨ k = 4 ∨ k = 5 ∨ k = 6 := by omega
  all_goals exact ⟨by kernel_rfl, by kernel_rfl⟩
theorem tieT_map (c d : Int) {k : Nat} (h1 : 1 ≤ k) (h6 : k ≤ 6) : (S.map (S.tieT c d k)).verts = tV k ++ [vN] ∧ (S.map (S.tieT c d k)).edges = tE c k [⟨r1, vN, d, 901⟩] [⟨r50, vN, 1, 902⟩] [⟨vN, r1, 0, 901⟩, ⟨vN, r50, 0, 902⟩] := by
  obtain rfl | rfl | rfl | rfl | rfl | rfl : k = 1 ∨ k = 2 ∨ k = 3 ∨ k = 4 ∨ k = 5 ∨ k = 6 := by omega
  all_goals exact ⟨by kernel_rfl, by kernel_rfl⟩
theorem mem_tV {k : Nat} {v : Vert} : v ∈ tV k ↔ v = r1 ∨ (∃ i, i < k ∧ v = ri i) ∨ v = r50 := by
  unfold tV
  rw [List.mem_append, List.mem_cons, List.mem_map, List.mem_singleton, or_assoc]
  constructor
  · rintro (h | ⟨i, hi, h⟩ | h)
    · exact .inl h
    · exact .inr (.inl ⟨i, List.mem_range.1 hi, h.symm⟩)
    · exact .inr (.inr h)
  · rintro (h | ⟨i, hi, h⟩ | h)
    · exact .inl h
    · exact .inr (.inl ⟨i, List.mem_range.2 hi, h.symm⟩)
    · exact .inr (.inr h)
theorem mem_tE {c : Int} {k : Nat} {a b d : List Edge} {e : Edge} : e ∈ tE c k a b d ↔ (∃ i, i < k ∧ (e = ⟨r1, ri i, c, (i : Int) + 302⟩ ∨ e = ⟨ri i, r1, c, (i : Int) + 102⟩ ∨ e = ⟨ri i, r50, c, (i : Int) + 202⟩ ∨ e = ⟨r50, ri i, c, (i : Int) + 402⟩)) ∨ e ∈ a ∨ e ∈ b ∨ e ∈ d := by
  unfold tE
  simp only [List.mem_append, List.mem_map, List.mem_reverse, List.mem_range, List.mem_flatMap, List.mem_cons, List.not_mem_nil, or_false]
  constructor
  · rintro (⟨i, hi, rfl⟩ | h | ⟨i, hi, h⟩ | ⟨i, hi, rfl⟩ | h | h)
    · exact .inl ⟨i, hi, .inl rfl⟩
    · exact .inr (.inl h)
    · rcases h with h | h
      · exact .inl ⟨i, hi, .inr (.inl h)⟩
      · exact .inl ⟨i, hi, .inr (.inr (.inl h))⟩
    · exact .inl ⟨i, hi, .inr (.inr (.inr rfl))⟩
    · exact .inr (.inr (.inl h))
    · exact .inr (.inr (.inr h))
  · rintro (⟨i, hi, h | h | h | h⟩ | h | h | h)
    · exact .inl ⟨i, hi, h.symm⟩
    · exact .inr (.inr (.inl ⟨i, hi, .inl h⟩))
    · exact .inr (.inr (.inl ⟨i, hi, .inr h⟩))
    · exact .inr (.inr (.inr (.inl ⟨i, hi, h.symm⟩)))
    · exact .inr (.inl h)
    · exact .inr (.inr (.inr (.inr (.inl h))))
    · exact .inr (.inr (.inr (.inr (.inr h))))
theorem tieF_tie {c : Int} {k : Nat} (h1 : 1 ≤ k) (h6 : k ≤ 6) (c1 : 1 ≤ c) (c2 : c ≤ 256) : Tie k c false (S.map (S.tieF c k)) := by
  obtain ⟨hv, he⟩ := tieF_map c h1 h6
  refine ⟨h1, h6, c1, c2, fun v => ?_, fun e h => ?_, fun i hi => ?_, fun i hi => ?_, (fun h => by cases h), (fun h => by cases h)⟩
  · rw [hv, mem_tV]
    simp
  · rw [he, mem_tE] at h
    rcases h with ⟨i, hi, rfl | rfl | rfl | rfl⟩ | h | h | h
    · exact .inl ⟨i, hi, rfl, .inl ⟨rfl, rfl⟩⟩
    · exact .inl ⟨i, hi, rfl, .inr (.inl ⟨rfl, rfl⟩)⟩
    · exact .inl ⟨i, hi, rfl, .inr (.inr (.inl ⟨rfl, rfl, rfl⟩))⟩
    · exact .inl ⟨i, hi, rfl, .inr (.inr (.inr ⟨rfl, rfl⟩))⟩
    · cases h
    · cases h
    · cases h
  · exact ⟨_, by rw [he, mem_tE]; exact .inl ⟨i, hi, .inl rfl⟩⟩
  · exact ⟨_, by rw [he, mem_tE]; exact .inl ⟨i, hi, .inr (.inr (.inl rfl))⟩⟩
theorem tieT_tie {c : Int} {k : Nat} (h1 : 1 ≤ k) (h6 : k ≤ 6) (c1 : 1 ≤ c) (c2 : c ≤ 256) : Tie k c true (S.map (S.tieT c (2 * c) k)) := by
  obtain ⟨hv, he⟩ := tieT_map c (2 * c) h1 h6
  refine ⟨h1, h6, c1, c2, fun v => ?_, fun e h => ?_, fun i hi => ?_, fun i hi => ?_, fun _ => ⟨_, by rw [he, mem_tE]; exact .inr (.inl (List.mem_singleton.2 rfl))⟩, fun _ => ⟨902, by rw [he, mem_tE]; exact .inr (.inr (.inr (List.mem_cons_of_mem _ (List.mem_singleton.2 rfl))))⟩⟩
  · rw [hv, List.mem_append, mem_tV, List.mem_singleton]
    simp only [true_and, or_assoc]
  · rw [he, mem_tE] at h
    rcases h with ⟨i, hi, rfl | rfl | rfl | rfl⟩ | h | h | h
    · exact .inl ⟨i, hi, rfl, .inl ⟨rfl, rfl⟩⟩
    · exact .inl ⟨i, hi, rfl, .inr (.inl ⟨rfl, rfl⟩)⟩
    · exact .inl ⟨i, hi, rfl, .inr (.inr (.inl ⟨rfl, rfl, rfl⟩))⟩
    · exact .inl ⟨i, hi, rfl, .inr (.inr (.inr ⟨rfl, rfl⟩))⟩
    · rw [List.mem_singleton] at h
      subst h
      exact .inr ⟨rfl, .inl ⟨rfl, rfl, rfl⟩⟩
    · rw [List.mem_singleton] at h
      subst h
      exact .inr ⟨rfl, .inr (.inr (.inr ⟨rfl, rfl, rfl⟩))⟩
    · rw [List.mem_cons, List.mem_singleton] at h
      rcases h with rfl | rfl
      · exact .inr ⟨rfl, .inr (.inl ⟨rfl, rfl, rfl⟩)⟩
      · exact .inr ⟨rfl, .inr (.inr (.inl ⟨rfl, rfl, rfl, rfl⟩))⟩
  · exact ⟨_, by rw [he, mem_tE]; exact .inl ⟨i, hi, .inl rfl⟩⟩
  · exact ⟨_, by rw [he, mem_tE]; exact .inl ⟨i, hi, .inr (.inr (.inl rfl))⟩⟩
end Go.Proofs.Ytoknhjmcoleejaa
