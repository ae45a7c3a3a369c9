/- The edges of a vertex. No condition. -/
import Derived.Test.YtoknhjmcoleejaaFC
import Derived.Test.YtoknhjmcoleejaaGG
set_option linter.unusedVariables false
set_option linter.unusedSimpArgs false
namespace Go.Proofs.Ytoknhjmcoleejaa
open Go.RowKit
def lv52 : List (Nat × List Nat) := [(0, [0, 3]), (1, [0, 3, 5]), (2, [0, 3, 5, 6]), (3, [0, 3, 5, 6, 8]), (4, [0, 3, 5, 6, 8, 34]), (5, [0, 3, 5, 6, 8]), (6, [0, 3, 5, 6, 8, 9]), (7, [0, 3, 5, 6, 8, 9, 44]), (8, [0, 3, 5, 6, 8, 9, 10]), (9, [0, 3, 5, 6, 8, 9, 10, 11, 12]), (10, [0, 3, 5, 6, 8, 9, 10, 12, 14]), (11, [0, 3, 5, 6, 8, 9, 10, 64]), (12, [0, 3, 5, 6, 8, 9]), (13, [0, 3, 5, 6, 8, 9, 77]), (14, [0, 3, 5, 6, 8, 9, 15]), (15, [0, 3, 5, 6, 8, 9, 15, 16, 17]), (16, [0, 3, 5, 6, 8, 9, 15, 94]), (17, [0, 3, 5, 6, 8]), (18, [0, 3, 5, 6, 18]), (19, [0, 3, 5, 6, 18, 109]), (20, [0, 3, 5, 6, 18]), (21, [0, 3, 5, 6, 18, 121]), (22, [0, 3, 5, 6, 18, 19]), (23, [0, 3, 5, 6, 18, 19, 20, 21]), (24, [0, 3, 5, 6, 18, 19, 21, 22, 23]), (25, [0, 3, 5, 6, 18, 19, 22, 144]), (26, [0, 3, 5, 6, 18]), (27, [4]), (1000000, [0, 3, 5, 6]), (1000001, [0, 3, 5, 6, 8]), (1000002, [5]), (1000003, [0, 3, 5, 6, 18])]
theorem tiny_ok {n : Nat} (h : S.tiny n = true) : S.okLen n = true := by have := tiny_r h; simp [S.okLen]; omega
def S.okLsa (l : Lsa) : Bool := S.tiny l.links.length && S.tiny l.routers.length
def S.okLsas (ls : List Lsa) : Bool := S.tiny ls.length && ls.all S.okLsa
theorem iter_inv {α σ : Type} (P : σ → Prop) {f : σ → α → σ} {xs : List α} {d : α} (hf : ∀ s (i : Nat), P s → P (f s (xs.getD i d))) : ∀ (n : Nat) (i : Int) (s : σ), P s → P (S.iter f xs d n i s)
  | 0, _, _, h => h
  | n + 1, i, s, h => iter_inv P hf n (i + 1) _ (hf s i.toNat h)
theorem getD_all {α : Type} {p : α → Bool} {xs : List α} {d : α} (h : xs.all p = true) (hd : p d = true) (i : Nat) : p (xs.getD i d) = true := by
  rw [List.getD_eq_getElem?_getD]
  cases hx : xs[i]? with
  | none => exact hd
  | some x => exact List.all_eq_true.1 h x (List.mem_of_getElem? hx)
theorem find_ok {ls : List Lsa} (h : S.okLsas ls = true) (v : Vert) : S.okLsa (S.find ls v).1 = true := by
  simp only [S.okLsas, Bool.and_eq_true] at h
  unfold S.find
  refine iter_inv (fun s : Lsa × Bool => S.okLsa s.1 = true) (fun s i hs => ?_) _ _ _ (by decide)
  unfold S.findStep
  split
  · exact getD_all h.2 (by decide) i
  · exact hs
def S.link1 (ls : List Lsa) (v : Vert) (o : List Edge) (k : Link) : List Edge :=
  if k.kind == 1 then (if (S.find ls ⟨1, k.id⟩).2 && S.isBack (S.find ls ⟨1, k.id⟩).1.links 1 v.id then o ++ [(⟨v, ⟨1, k.id⟩, k.cost, k.data⟩ : Edge)] else o) else o
def S.link2 (ls : List Lsa) (v : Vert) (o : List Edge) (k : Link) : List Edge :=
  if k.kind == 2 then (if (S.find ls ⟨2, k.id⟩).2 && S.has (S.find ls ⟨2, k.id⟩).1.routers v.id then o ++ [(⟨v, ⟨2, k.id⟩, k.cost, k.data⟩ : Edge)] else o) else o
def S.linkStep (ls : List Lsa) (v : Vert) (o : List Edge) (k : Link) : List Edge := S.link2 ls v (S.link1 ls v o k) k
theorem link1_len (ls : List Lsa) (v : Vert) (o : List Edge) (k : Link) : (S.link1 ls v o k).length ≤ o.length + 1 := by
  unfold S.link1
  repeat' split
  all_goals simp
theorem link2_len (ls : List Lsa) (v : Vert) (o : List Edge) (k : Link) : (S.link2 ls v o k).length ≤ o.length + 1 := by
  unfold S.link2
  repeat' split
  all_goals simp
theorem linkStep_len (ls : List Lsa) (v : Vert) (o : List Edge) (k : Link) : (S.linkStep ls v o k).length ≤ o.length + 2 := by
  have h1 := link1_len ls v o k
  have h2 := link2_len ls v (S.link1 ls v o k) k
  unfold S.linkStep
  omega
def hd52a : List HK := [.av 0 (.sl .lsa), .box 3 3 .vert 38, .row 5 .edge 5, .box 6 6 .lsa 48, .av 8 .int]
def lc52a : LS := mkLS hd52a (fun ((ls : List Lsa), (v : Vert), (o : List Edge), (x : Lsa), (i : Int), _) => [decide (i = 0), decide (o.length = 0), S.okLsas ls, S.okLsa x]) fun ((ls : List Lsa), (v : Vert), (o : List Edge), (x : Lsa), (i : Int), _) =>
  .one (.exit 0) ⟨[(0, .v (.c (.sl .lsa ls))), (3, .v (.c (.ptr 3 0))), (5, .v (.c (.own 5))), (6, .v (.c (.ptr 6 0)))], [(3, .box (cells .vert v) 38), (5, .arr .edge (S.iter (S.linkStep ls v) x.links (zero .link) x.links.length 0 o)), (6, .box (cells .lsa x) 48)]⟩
noncomputable def c52a : Code := sub (bodyOf Try.f52) [1,1,1,0,1,0,0]
def sg52 : List (Nat × Summary) := [(51, sm51), (85, sm85), (68, sm68)]
theorem sok52 : SigOK Try.prog sg52 := sig_cons ok51 (sig_cons ok85 (sig_cons ok68 sig_nil))
theorem lok52a : LoopOK Try.prog 154 c52a lc52a := by
  refine loop_ev (sig := sg52) (lcs := []) (lv := lv52) c52a (fun v => by kernel_rfl) sok52 (no_loops (by kernel_rfl)) ?_
  rintro ⟨(ls : List Lsa), (v : Vert), (o : List Edge), (x : Lsa), (i0 : Int), _⟩ hpre
  have hp : i0 = 0 ∧ o.length = 0 ∧ S.okLsas ls = true ∧ S.okLsa x = true := by simpa using hpre
  have hp1 := hp.1
  have hp2 := hp.2.1
  have hls := hp.2.2.1
  have hx := hp.2.2.2
  clear hp
  subst hp1
  have hxl : x.links.length < 268435456 := tiny_r (by simp only [S.okLsa, Bool.and_eq_true] at hx; exact hx.1)
  refine ⟨fun n u => u.1 = ls ∧ u.2.1 = v ∧ (u.2.2.1 : List Edge).length + 2 * n ≤ 2 * x.links.length ∧ u.2.2.2.1 = x ∧ 0 ≤ (u.2.2.2.2.1 : Int) ∧ (u.2.2.2.2.1 : Int) + n = x.links.length ∧ S.iter (S.linkStep ls v) x.links (zero .link) n u.2.2.2.2.1 u.2.2.1 = S.iter (S.linkStep ls v) x.links (zero .link) x.links.length 0 o, x.links.length, ⟨rfl, rfl, by show o.length + 2 * x.links.length ≤ _; omega, rfl, Int.le_refl 0, Int.zero_add _, rfl⟩, ?_⟩
  rintro Q hQ n ⟨(ls' : List Lsa), (v' : Vert), (o' : List Edge), (x' : Lsa), (i : Int), _⟩ hI
  have h1 : ls' = ls := hI.1
  have h2 : v' = v := hI.2.1
  have hlen : o'.length + 2 * n ≤ 2 * x.links.length := hI.2.2.1
  have h3 : x' = x := hI.2.2.2.1
  have h0 : 0 ≤ i := hI.2.2.2.2.1
  have hn : i + n = x.links.length := hI.2.2.2.2.2.1
  have hs : S.iter (S.linkStep ls v) x.links (zero .link) n i o' = S.iter (S.linkStep ls v) x.links (zero .link) x.links.length 0 o := hI.2.2.2.2.2.2
  have hQ1 : Q (.exit 0) ⟨[(0, .v (.c (.sl .lsa ls))), (3, .v (.c (.ptr 3 0))), (5, .v (.c (.own 5))), (6, .v (.c (.ptr 6 0)))], [(3, .box (cells .vert v) 38), (5, .arr .edge (S.iter (S.linkStep ls v) x.links (zero .link) x.links.length 0 o)), (6, .box (cells .lsa x) 48)]⟩ := hQ
  subst h1 h2 h3
  clear hI
  generalize S.iter (S.linkStep ls' v') x'.links (zero .link) x'.links.length 0 o = res at hs hQ1
  suffices hnf : (decide (i < (↑x'.links.length : Int)) = true → inb i x'.links.length = true ∧ (((x'.links.getD i.toNat (zero K.link)).kind == (1 : Int)) = true → S.okLen ls'.length = true ∧ S.okLen (S.find ls' { kind := (1 : Int), id := (x'.links.getD i.toNat (zero K.link)).id : Vert }).1.links.length = true ∧ (((S.find ls' { kind := (1 : Int), id := (x'.links.getD i.toNat (zero K.link)).id : Vert }).2 && S.isBack (S.find ls' { kind := (1 : Int), id := (x'.links.getD i.toNat (zero K.link)).id : Vert }).1.links (1 : Int) v'.id) = true → roomy o'.length [{ src := v', dst := { kind := (1 : Int), id := (x'.links.getD i.toNat (zero K.link)).id : Vert }, cost := (x'.links.getD i.toNat (zero K.link)).cost, data := (x'.links.getD i.toNat (zero K.link)).data : Edge }].length (48 : Nat) = true ∧ (((x'.links.getD i.toNat (zero K.link)).kind == (2 : Int)) = true → S.okLen ls'.length = true ∧ (!(S.find ls' { kind := (2 : Int), id := (x'.links.getD i.toNat (zero K.link)).id : Vert }).2 || S.okLen (S.find ls' { kind := (2 : Int), id := (x'.links.getD i.toNat (zero K.link)).id : Vert }).1.routers.length) = true ∧ (((S.find ls' { kind := (2 : Int), id := (x'.links.getD i.toNat (zero K.link)).id : Vert }).2 && S.has (S.find ls' { kind := (2 : Int), id := (x'.links.getD i.toNat (zero K.link)).id : Vert }).1.routers v'.id) = true → roomy (o' ++ [{ src := v', dst := { kind := (1 : Int), id := (x'.links.getD i.toNat (zero K.link)).id : Vert }, cost := (x'.links.getD i.toNat (zero K.link)).cost, data := (x'.links.getD i.toNat (zero K.link)).data : Edge }]).length [{ src := v', dst := { kind := (2 : Int), id := (x'.links.getD i.toNat (zero K.link)).id : Vert }, cost := (x'.links.getD i.toNat (zero K.link)).cost, data := (x'.links.getD i.toNat (zero K.link)).data : Edge }].length (48 : Nat) = true ∧ ∃ n', n' < n ∧ ls' = ls' ∧ v' = v' ∧ (o' ++ [{ src := v', dst := { kind := (1 : Int), id := (x'.links.getD i.toNat (zero K.link)).id : Vert }, cost := (x'.links.getD i.toNat (zero K.link)).cost, data := (x'.links.getD i.toNat (zero K.link)).data : Edge }] ++ [{ src := v', dst := { kind := (2 : Int), id := (x'.links.getD i.toNat (zero K.link)).id : Vert }, cost := (x'.links.getD i.toNat (zero K.link)).cost, data := (x'.links.getD i.toNat (zero K.link)).data : Edge }]).length + (2 : Nat) * n' ≤ (2 : Nat) * x'.links.length ∧ x' = x' ∧ (0 : Int) ≤ IntKind.i64.wrap (i + (1 : Int)) ∧ IntKind.i64.wrap (i + (1 : Int)) + (↑n' : Int) = (↑x'.links.length : Int) ∧ S.iter (S.linkStep ls' v') x'.links (zero K.link) n' (IntKind.i64.wrap (i + (1 : Int))) (o' ++ [{ src := v', dst := { kind := (1 : Int), id := (x'.links.getD i.toNat (zero K.link)).id : Vert }, cost := (x'.links.getD i.toNat (zero K.link)).cost, data := (x'.links.getD i.toNat (zero K.link)).data : Edge }] ++ [{ src := v', dst := { kind := (2 : Int), id := (x'.links.getD i.toNat (zero K.link)).id : Vert }, cost := (x'.links.getD i.toNat (zero K.link)).cost, data := (x'.links.getD i.toNat (zero K.link)).data : Edge }]) = res) ∧ (((S.find ls' { kind := (2 : Int), id := (x'.links.getD i.toNat (zero K.link)).id : Vert }).2 && S.has (S.find ls' { kind := (2 : Int), id := (x'.links.getD i.toNat (zero K.link)).id : Vert }).1.routers v'.id) = false → ∃ n', n' < n ∧ ls' = ls' ∧ v' = v' ∧ (o' ++ [{ src := v', dst := { kind := (1 : Int), id := (x'.links.getD i.toNat (zero K.link)).id : Vert }, cost := (x'.links.getD i.toNat (zero K.link)).cost, data := (x'.links.getD i.toNat (zero K.link)).data : Edge }]).length + (2 : Nat) * n' ≤ (2 : Nat) * x'.links.length ∧ x' = x' ∧ (0 : Int) ≤ IntKind.i64.wrap (i + (1 : Int)) ∧ IntKind.i64.wrap (i + (1 : Int)) + (↑n' : Int) = (↑x'.links.length : Int) ∧ S.iter (S.linkStep ls' v') x'.links (zero K.link) n' (IntKind.i64.wrap (i + (1 : Int))) (o' ++ [{ src := v', dst := { kind := (1 : Int), id := (x'.links.getD i.toNat (zero K.link)).id : Vert }, cost := (x'.links.getD i.toNat (zero K.link)).cost, data := (x'.links.getD i.toNat (zero K.link)).data : Edge }]) = res)) ∧ (((x'.links.getD i.toNat (zero K.link)).kind == (2 : Int)) = false → ∃ n', n' < n ∧ ls' = ls' ∧ v' = v' ∧ (o' ++ [{ src := v', dst := { kind := (1 : Int), id := (x'.links.getD i.toNat (zero K.link)).id : Vert }, cost := (x'.links.getD i.toNat (zero K.link)).cost, data := (x'.links.getD i.toNat (zero K.link)).data : Edge }]).length + (2 : Nat) * n' ≤ (2 : Nat) * x'.links.length ∧ x' = x' ∧ (0 : Int) ≤ IntKind.i64.wrap (i + (1 : Int)) ∧ IntKind.i64.wrap (i + (1 : Int)) + (↑n' : Int) = (↑x'.links.length : Int) ∧ S.iter (S.linkStep ls' v') x'.links (zero K.link) n' (IntKind.i64.wrap (i + (1 : Int))) (o' ++ [{ src := v', dst := { kind := (1 : Int), id := (x'.links.getD i.toNat (zero K.link)).id : Vert }, cost := (x'.links.getD i.toNat (zero K.link)).cost, data := (x'.links.getD i.toNat (zero K.link)).data : Edge }]) = res)) ∧ (((S.find ls' { kind := (1 : Int), id := (x'.links.getD i.toNat (zero K.link)).id : Vert }).2 && S.isBack (S.find ls' { kind := (1 : Int), id := (x'.links.getD i.toNat (zero K.link)).id : Vert }).1.links (1 : Int) v'.id) = false → (((x'.links.getD i.toNat (zero K.link)).kind == (2 : Int)) = true → S.okLen ls'.length = true ∧ (!(S.find ls' { kind := (2 : Int), id := (x'.links.getD i.toNat (zero K.link)).id : Vert }).2 || S.okLen (S.find ls' { kind := (2 : Int), id := (x'.links.getD i.toNat (zero K.link)).id : Vert }).1.routers.length) = true ∧ (((S.find ls' { kind := (2 : Int), id := (x'.links.getD i.toNat (zero K.link)).id : Vert }).2 && S.has (S.find ls' { kind := (2 : Int), id := (x'.links.getD i.toNat (zero K.link)).id : Vert }).1.routers v'.id) = true → roomy o'.length [{ src := v', dst := { kind := (2 : Int), id := (x'.links.getD i.toNat (zero K.link)).id : Vert }, cost := (x'.links.getD i.toNat (zero K.link)).cost, data := (x'.links.getD i.toNat (zero K.link)).data : Edge }].length (48 : Nat) = true ∧ ∃ n', n' < n ∧ ls' = ls' ∧ v' = v' ∧ (o' ++ [{ src := v', dst := { kind := (2 : Int), id := (x'.links.getD i.toNat (zero K.link)).id : Vert }, cost := (x'.links.getD i.toNat (zero K.link)).cost, data := (x'.links.getD i.toNat (zero K.link)).data : Edge }]).length + (2 : Nat) * n' ≤ (2 : Nat) * x'.links.length ∧ x' = x' ∧ (0 : Int) ≤ IntKind.i64.wrap (i + (1 : Int)) ∧ IntKind.i64.wrap (i + (1 : Int)) + (↑n' : Int) = (↑x'.links.length : Int) ∧ S.iter (S.linkStep ls' v') x'.links (zero K.link) n' (IntKind.i64.wrap (i + (1 : Int))) (o' ++ [{ src := v', dst := { kind := (2 : Int), id := (x'.links.getD i.toNat (zero K.link)).id : Vert }, cost := (x'.links.getD i.toNat (zero K.link)).cost, data := (x'.links.getD i.toNat (zero K.link)).data : Edge }]) = res) ∧ (((S.find ls' { kind := (2 : Int), id := (x'.links.getD i.toNat (zero K.link)).id : Vert }).2 && S.has (S.find ls' { kind := (2 : Int), id := (x'.links.getD i.toNat (zero K.link)).id : Vert }).1.routers v'.id) = false → ∃ n', n' < n ∧ ls' = ls' ∧ v' = v' ∧ o'.length + (2 : Nat) * n' ≤ (2 : Nat) * x'.links.length ∧ x' = x' ∧ (0 : Int) ≤ IntKind.i64.wrap (i + (1 : Int)) ∧ IntKind.i64.wrap (i + (1 : Int)) + (↑n' : Int) = (↑x'.links.length : Int) ∧ S.iter (S.linkStep ls' v') x'.links (zero K.link) n' (IntKind.i64.wrap (i + (1 : Int))) o' = res)) ∧ (((x'.links.getD i.toNat (zero K.link)).kind == (2 : Int)) = false → ∃ n', n' < n ∧ ls' = ls' ∧ v' = v' ∧ o'.length + (2 : Nat) * n' ≤ (2 : Nat) * x'.links.length ∧ x' = x' ∧ (0 : Int) ≤ IntKind.i64.wrap (i + (1 : Int)) ∧ IntKind.i64.wrap (i + (1 : Int)) + (↑n' : Int) = (↑x'.links.length : Int) ∧ S.iter (S.linkStep ls' v') x'.links (zero K.link) n' (IntKind.i64.wrap (i + (1 : Int))) o' = res))) ∧ (((x'.links.getD i.toNat (zero K.link)).kind == (1 : Int)) = false → (((x'.links.getD i.toNat (zero K.link)).kind == (2 : Int)) = true → S.okLen ls'.length = true ∧ (!(S.find ls' { kind := (2 : Int), id := (x'.links.getD i.toNat (zero K.link)).id : Vert }).2 || S.okLen (S.find ls' { kind := (2 : Int), id := (x'.links.getD i.toNat (zero K.link)).id : Vert }).1.routers.length) = true ∧ (((S.find ls' { kind := (2 : Int), id := (x'.links.getD i.toNat (zero K.link)).id : Vert }).2 && S.has (S.find ls' { kind := (2 : Int), id := (x'.links.getD i.toNat (zero K.link)).id : Vert }).1.routers v'.id) = true → roomy o'.length [{ src := v', dst := { kind := (2 : Int), id := (x'.links.getD i.toNat (zero K.link)).id : Vert }, cost := (x'.links.getD i.toNat (zero K.link)).cost, data := (x'.links.getD i.toNat (zero K.link)).data : Edge }].length (48 : Nat) = true ∧ ∃ n', n' < n ∧ ls' = ls' ∧ v' = v' ∧ (o' ++ [{ src := v', dst := { kind := (2 : Int), id := (x'.links.getD i.toNat (zero K.link)).id : Vert }, cost := (x'.links.getD i.toNat (zero K.link)).cost, data := (x'.links.getD i.toNat (zero K.link)).data : Edge }]).length + (2 : Nat) * n' ≤ (2 : Nat) * x'.links.length ∧ x' = x' ∧ (0 : Int) ≤ IntKind.i64.wrap (i + (1 : Int)) ∧ IntKind.i64.wrap (i + (1 : Int)) + (↑n' : Int) = (↑x'.links.length : Int) ∧ S.iter (S.linkStep ls' v') x'.links (zero K.link) n' (IntKind.i64.wrap (i + (1 : Int))) (o' ++ [{ src := v', dst := { kind := (2 : Int), id := (x'.links.getD i.toNat (zero K.link)).id : Vert }, cost := (x'.links.getD i.toNat (zero K.link)).cost, data := (x'.links.getD i.toNat (zero K.link)).data : Edge }]) = res) ∧ (((S.find ls' { kind := (2 : Int), id := (x'.links.getD i.toNat (zero K.link)).id : Vert }).2 && S.has (S.find ls' { kind := (2 : Int), id := (x'.links.getD i.toNat (zero K.link)).id : Vert }).1.routers v'.id) = false → ∃ n', n' < n ∧ ls' = ls' ∧ v' = v' ∧ o'.length + (2 : Nat) * n' ≤ (2 : Nat) * x'.links.length ∧ x' = x' ∧ (0 : Int) ≤ IntKind.i64.wrap (i + (1 : Int)) ∧ IntKind.i64.wrap (i + (1 : Int)) + (↑n' : Int) = (↑x'.links.length : Int) ∧ S.iter (S.linkStep ls' v') x'.links (zero K.link) n' (IntKind.i64.wrap (i + (1 : Int))) o' = res)) ∧ (((x'.links.getD i.toNat (zero K.link)).kind == (2 : Int)) = false → ∃ n', n' < n ∧ ls' = ls' ∧ v' = v' ∧ o'.length + (2 : Nat) * n' ≤ (2 : Nat) * x'.links.length ∧ x' = x' ∧ (0 : Int) ≤ IntKind.i64.wrap (i + (1 : Int)) ∧ IntKind.i64.wrap (i + (1 : Int)) + (↑n' : Int) = (↑x'.links.length : Int) ∧ S.iter (S.linkStep ls' v') x'.links (zero K.link) n' (IntKind.i64.wrap (i + (1 : Int))) o' = res))) ∧ (decide (i < (↑x'.links.length : Int)) = false → Q (Exit.exit (0 : Nat)) { s := [((0 : Nat), AV.v (V1.c (C.sl K.lsa ls'))), ((3 : Nat), AV.v (V1.c (C.ptr (3 : Nat) (0 : Nat)))), ((5 : Nat), AV.v (V1.c (C.own (5 : Nat)))), ((6 : Nat), AV.v (V1.c (C.ptr (6 : Nat) (0 : Nat))))], b := [((3 : Nat), Blk.box [C.val (Value.int IntKind.i64 v'.kind), C.val (Value.int IntKind.i64 v'.id)] (38 : Nat)), ((5 : Nat), Blk.arr K.edge o'), ((6 : Nat), Blk.box [C.val (Value.int IntKind.i64 x'.head.age), C.val (Value.int IntKind.i64 x'.head.kind), C.val (Value.int IntKind.i64 x'.head.id), C.val (Value.int IntKind.i64 x'.head.adv), C.val (Value.int IntKind.i64 x'.head.seq), C.val (Value.int IntKind.i64 x'.head.sum), C.val (Value.int IntKind.i64 x'.head.len), C.val (Value.int IntKind.i64 x'.flags), C.sl K.link x'.links, C.val (Value.int IntKind.i64 x'.bits), C.sl K.int x'.routers, C.sl K.vert x'.verts] (48 : Nat))] : St }) by (apply nfto hnf; kernel_rfl)
  cases n with
  | zero =>
    have : ¬ i < x'.links.length := by omega
    refine ⟨fun h => absurd (of_decide_eq_true h) this, fun _ => ?_⟩
    rw [← hs] at hQ1; exact hQ1
  | succ n =>
    have hib : inb i x'.links.length = true := by rw [inb_iff]; omega
    have hw : IntKind.i64.wrap (i + 1) = i + 1 := wrap_id (by omega) (by omega)
    simp only [S.iter] at hs
    rw [hw]
    generalize x'.links.getD i.toNat (zero .link) = k at hs
    have c1 : S.okLen ls'.length = true := by simp only [S.okLsas, Bool.and_eq_true] at hls; exact tiny_ok hls.1
    have c2 : ∀ u, S.okLen (S.find ls' u).1.links.length = true := fun u => by
      have := find_ok hls u
      simp only [S.okLsa, Bool.and_eq_true] at this
      exact tiny_ok this.1
    have c3 : ∀ u (b : Bool), (!b || S.okLen (S.find ls' u).1.routers.length) = true := fun u b => by
      have := find_ok hls u
      simp only [S.okLsa, Bool.and_eq_true] at this
      rw [tiny_ok this.2]; simp
    have room : ∀ (xs : List Edge) (e : Edge), xs.length ≤ o'.length + 1 → roomy xs.length [e].length 48 = true := fun xs e h => by
      rw [roomy_iff]
      have : [e].length = 1 := rfl
      omega
    have b2 := linkStep_len ls' v' o' k
    have fin : ∀ r, r = S.linkStep ls' v' o' k → ∃ n', n' < n + 1 ∧ ls' = ls' ∧ v' = v' ∧ r.length + 2 * n' ≤ 2 * x'.links.length ∧ x' = x' ∧ (0 : Int) ≤ i + 1 ∧ i + 1 + (n' : Int) = x'.links.length ∧ S.iter (S.linkStep ls' v') x'.links (zero .link) n' (i + 1) r = res := by
      intro r hr
      subst hr
      exact ⟨n, by omega, rfl, rfl, by omega, rfl, by omega, by omega, hs⟩
    refine ⟨fun _ => ⟨hib, fun a => ⟨c1, c2 _, fun b => ⟨room _ _ (by omega), fun c => ⟨c1, c3 _ _, fun d => ⟨room _ _ (by simp), fin _ ?_⟩, fun d => fin _ ?_⟩, fun c => fin _ ?_⟩, fun b => ⟨fun c => ⟨c1, c3 _ _, fun d => ⟨room _ _ (by omega), fin _ ?_⟩, fun d => fin _ ?_⟩, fun c => fin _ ?_⟩⟩,
      fun a => ⟨fun c => ⟨c1, c3 _ _, fun d => ⟨room _ _ (by omega), fin _ ?_⟩, fun d => fin _ ?_⟩, fun c => fin _ ?_⟩⟩, fun h => ?_⟩
    · simp only [S.linkStep, S.link1, S.link2, a, b, c, d, if_true, if_false, Bool.false_eq_true]
    · simp only [S.linkStep, S.link1, S.link2, a, b, c, d, if_true, if_false, Bool.false_eq_true]
    · simp only [S.linkStep, S.link1, S.link2, a, b, c, if_true, if_false, Bool.false_eq_true]
    · simp only [S.linkStep, S.link1, S.link2, a, b, c, d, if_true, if_false, Bool.false_eq_true]
    · simp only [S.linkStep, S.link1, S.link2, a, b, c, d, if_true, if_false, Bool.false_eq_true]
    · simp only [S.linkStep, S.link1, S.link2, a, b, c, if_true, if_false, Bool.false_eq_true]
    · simp only [S.linkStep, S.link1, S.link2, a, c, d, if_true, if_false, Bool.false_eq_true]
    · simp only [S.linkStep, S.link1, S.link2, a, c, d, if_true, if_false, Bool.false_eq_true]
    · simp only [S.linkStep, S.link1, S.link2, a, c, if_true, if_false, Bool.false_eq_true]
    · have : ¬ i < x'.links.length := of_decide_eq_false h
      omega
/-! ### the routers of a network -/
def S.iterI {σ : Type} (f : Int → σ → σ) : Nat → Int → σ → σ
  | 0, _, s => s
  | n + 1, i, s => S.iterI f n (i + 1) (f i s)
def S.roStep (ls : List Lsa) (v : Vert) (rs : List Int) (i : Int) (o : List Edge) : List Edge :=
  if S.has (rs.take i.toNat) (rs.getD i.toNat 0) then o else
  if (S.find ls ⟨1, rs.getD i.toNat 0⟩).2 && S.isBack (S.find ls ⟨1, rs.getD i.toNat 0⟩).1.links 2 v.id then o ++ [(⟨v, ⟨1, rs.getD i.toNat 0⟩, 0, (S.back (S.find ls ⟨1, rs.getD i.toNat 0⟩).1.links 2 v.id).data⟩ : Edge)] else o
theorem roStep_len (ls : List Lsa) (v : Vert) (rs : List Int) (i : Int) (o : List Edge) : (S.roStep ls v rs i o).length ≤ o.length + 1 := by
  unfold S.roStep
  repeat' split
  all_goals simp
def hd52b : List HK := [.av 0 (.sl .lsa), .box 3 3 .vert 38, .row 5 .edge 5, .box 6 6 .lsa 48, .av 18 .int]
def lc52b : LS := mkLS hd52b (fun ((ls : List Lsa), (v : Vert), (o : List Edge), (x : Lsa), (i : Int), _) => [decide (i = 0), decide (o.length ≤ 536870912), S.okLsas ls, S.okLsa x]) fun ((ls : List Lsa), (v : Vert), (o : List Edge), (x : Lsa), (i : Int), _) =>
  .one (.exit 2) ⟨[(5, .v (.c (.own 5)))], [(5, .arr .edge (S.iterI (S.roStep ls v x.routers) x.routers.length 0 o))]⟩
noncomputable def c52b : Code := sub (bodyOf Try.f52) [1,1,1,1,0,1,0,0]
theorem lok52b : LoopOK Try.prog 154 c52b lc52b := by
  refine loop_ev (sig := sg52) (lcs := []) (lv := lv52) c52b (fun v => by kernel_rfl) sok52 (no_loops (by kernel_rfl)) ?_
  rintro ⟨(ls : List Lsa), (v : Vert), (o : List Edge), (x : Lsa), (i0 : Int), _⟩ hpre
  have hp : i0 = 0 ∧ o.length ≤ 536870912 ∧ S.okLsas ls = true ∧ S.okLsa x = true := by simpa using hpre
  have hp1 := hp.1
  have hp2 := hp.2.1
  have hls := hp.2.2.1
  have hx := hp.2.2.2
  clear hp
  subst hp1
  have hxl : x.routers.length < 268435456 := tiny_r (by simp only [S.okLsa, Bool.and_eq_true] at hx; exact hx.2)
  refine ⟨fun n u => u.1 = ls ∧ u.2.1 = v ∧ (u.2.2.1 : List Edge).length + n ≤ 536870912 + x.routers.length ∧ u.2.2.2.1 = x ∧ 0 ≤ (u.2.2.2.2.1 : Int) ∧ (u.2.2.2.2.1 : Int) + n = x.routers.length ∧ S.iterI (S.roStep ls v x.routers) n u.2.2.2.2.1 u.2.2.1 = S.iterI (S.roStep ls v x.routers) x.routers.length 0 o, x.routers.length, ⟨rfl, rfl, by show o.length + x.routers.length ≤ _; omega, rfl, Int.le_refl 0, Int.zero_add _, rfl⟩, ?_⟩
  rintro Q hQ n ⟨(ls' : List Lsa), (v' : Vert), (o' : List Edge), (x' : Lsa), (i : Int), _⟩ hI
  have h1 : ls' = ls := hI.1
  have h2 : v' = v := hI.2.1
  have hlen : o'.length + n ≤ 536870912 + x.routers.length := hI.2.2.1
  have h3 : x' = x := hI.2.2.2.1
  have h0 : 0 ≤ i := hI.2.2.2.2.1
  have hn : i + n = x.routers.length := hI.2.2.2.2.2.1
  have hs : S.iterI (S.roStep ls v x.routers) n i o' = S.iterI (S.roStep ls v x.routers) x.routers.length 0 o := hI.2.2.2.2.2.2
  have hQ1 : Q (.exit 2) ⟨[(5, .v (.c (.own 5)))], [(5, .arr .edge (S.iterI (S.roStep ls v x.routers) x.routers.length 0 o))]⟩ := hQ
  subst h1 h2 h3
  clear hI
  generalize S.iterI (S.roStep ls' v' x'.routers) x'.routers.length 0 o = res at hs hQ1
  suffices hnf : (decide (i < (↑x'.routers.length : Int)) = true → decide ((0 : Int) ≤ i) = true ∧ decide (i ≤ (↑x'.routers.length : Int)) = true ∧ inb i x'.routers.length = true ∧ S.okLen (List.take i.toNat x'.routers).length = true ∧ (S.has (List.take i.toNat x'.routers) (x'.routers.getD i.toNat (0 : Int)) = true → ∃ n', n' < n ∧ ls' = ls' ∧ v' = v' ∧ o'.length + n' ≤ (536870912 : Nat) + x'.routers.length ∧ x' = x' ∧ (0 : Int) ≤ IntKind.i64.wrap (i + (1 : Int)) ∧ IntKind.i64.wrap (i + (1 : Int)) + (↑n' : Int) = (↑x'.routers.length : Int) ∧ S.iterI (S.roStep ls' v' x'.routers) n' (IntKind.i64.wrap (i + (1 : Int))) o' = res) ∧ (S.has (List.take i.toNat x'.routers) (x'.routers.getD i.toNat (0 : Int)) = false → inb i x'.routers.length = true ∧ S.okLen ls'.length = true ∧ S.okLen (S.find ls' { kind := (1 : Int), id := x'.routers.getD i.toNat (0 : Int) : Vert }).1.links.length = true ∧ (((S.find ls' { kind := (1 : Int), id := x'.routers.getD i.toNat (0 : Int) : Vert }).2 && S.isBack (S.find ls' { kind := (1 : Int), id := x'.routers.getD i.toNat (0 : Int) : Vert }).1.links (2 : Int) v'.id) = true → roomy o'.length [{ src := v', dst := { kind := (1 : Int), id := x'.routers.getD i.toNat (0 : Int) : Vert }, cost := (0 : Int), data := (S.back (S.find ls' { kind := (1 : Int), id := x'.routers.getD i.toNat (0 : Int) : Vert }).1.links (2 : Int) v'.id).data : Edge }].length (48 : Nat) = true ∧ ∃ n', n' < n ∧ ls' = ls' ∧ v' = v' ∧ (o' ++ [{ src := v', dst := { kind := (1 : Int), id := x'.routers.getD i.toNat (0 : Int) : Vert }, cost := (0 : Int), data := (S.back (S.find ls' { kind := (1 : Int), id := x'.routers.getD i.toNat (0 : Int) : Vert }).1.links (2 : Int) v'.id).data : Edge }]).length + n' ≤ (536870912 : Nat) + x'.routers.length ∧ x' = x' ∧ (0 : Int) ≤ IntKind.i64.wrap (i + (1 : Int)) ∧ IntKind.i64.wrap (i + (1 : Int)) + (↑n' : Int) = (↑x'.routers.length : Int) ∧ S.iterI (S.roStep ls' v' x'.routers) n' (IntKind.i64.wrap (i + (1 : Int))) (o' ++ [{ src := v', dst := { kind := (1 : Int), id := x'.routers.getD i.toNat (0 : Int) : Vert }, cost := (0 : Int), data := (S.back (S.find ls' { kind := (1 : Int), id := x'.routers.getD i.toNat (0 : Int) : Vert }).1.links (2 : Int) v'.id).data : Edge }]) = res) ∧ (((S.find ls' { kind := (1 : Int), id := x'.routers.getD i.toNat (0 : Int) : Vert }).2 && S.isBack (S.find ls' { kind := (1 : Int), id := x'.routers.getD i.toNat (0 : Int) : Vert }).1.links (2 : Int) v'.id) = false → ∃ n', n' < n ∧ ls' = ls' ∧ v' = v' ∧ o'.length + n' ≤ (536870912 : Nat) + x'.routers.length ∧ x' = x' ∧ (0 : Int) ≤ IntKind.i64.wrap (i + (1 : Int)) ∧ IntKind.i64.wrap (i + (1 : Int)) + (↑n' : Int) = (↑x'.routers.length : Int) ∧ S.iterI (S.roStep ls' v' x'.routers) n' (IntKind.i64.wrap (i + (1 : Int))) o' = res))) ∧ (decide (i < (↑x'.routers.length : Int)) = false → Q (Exit.exit (2 : Nat)) { s := [((5 : Nat), AV.v (V1.c (C.own (5 : Nat))))], b := [((5 : Nat), Blk.arr K.edge o')] : St }) by (apply nfto hnf; kernel_rfl)
  cases n with
  | zero =>
    have : ¬ i < x'.routers.length := by omega
    refine ⟨fun h => absurd (of_decide_eq_true h) this, fun _ => ?_⟩
    rw [← hs] at hQ1; exact hQ1
  | succ n =>
    have hib : inb i x'.routers.length = true := by rw [inb_iff]; omega
    have hw : IntKind.i64.wrap (i + 1) = i + 1 := wrap_id (by omega) (by omega)
    simp only [S.iterI] at hs
    rw [hw]
    have c1 : S.okLen ls'.length = true := by simp only [S.okLsas, Bool.and_eq_true] at hls; exact tiny_ok hls.1
    have c2 : ∀ u, S.okLen (S.find ls' u).1.links.length = true := fun u => by
      have := find_ok hls u
      simp only [S.okLsa, Bool.and_eq_true] at this
      exact tiny_ok this.1
    have c4 : S.okLen (List.take i.toNat x'.routers).length = true := by simp only [S.okLen, decide_eq_true_eq, List.length_take]; omega
    have room : ∀ (xs : List Edge) (e : Edge), xs.length ≤ o'.length → roomy xs.length [e].length 48 = true := fun xs e h => by
      rw [roomy_iff]
      have : [e].length = 1 := rfl
      omega
    have b2 := roStep_len ls' v' x'.routers i o'
    have fin : ∀ r, r = S.roStep ls' v' x'.routers i o' → ∃ n', n' < n + 1 ∧ ls' = ls' ∧ v' = v' ∧ r.length + n' ≤ 536870912 + x'.routers.length ∧ x' = x' ∧ (0 : Int) ≤ i + 1 ∧ i + 1 + (n' : Int) = x'.routers.length ∧ S.iterI (S.roStep ls' v' x'.routers) n' (i + 1) r = res := by
      intro r hr
      subst hr
      exact ⟨n, by omega, rfl, rfl, by omega, rfl, by omega, by omega, hs⟩
    refine ⟨fun _ => ⟨decide_eq_true h0, decide_eq_true (by omega), hib, c4, fun a => fin _ ?_, fun a => ⟨hib, c1, c2 _, fun b => ⟨room _ _ (Nat.le_refl _), fin _ ?_⟩, fun b => fin _ ?_⟩⟩, fun h => ?_⟩
    · simp only [S.roStep, a, if_true, if_false, Bool.false_eq_true]
    · simp only [S.roStep, a, b, if_true, if_false, Bool.false_eq_true]
    · simp only [S.roStep, a, b, if_true, if_false, Bool.false_eq_true]
    · have : ¬ i < x'.routers.length := of_decide_eq_false h
      omega
/-! ### the whole -/
def S.from1 (ls : List Lsa) (v : Vert) : List Edge := S.iter (S.linkStep ls v) (S.find ls v).1.links (zero .link) (S.find ls v).1.links.length 0 []
def S.from (ls : List Lsa) (v : Vert) : List Edge := S.iterI (S.roStep ls v (S.find ls v).1.routers) (S.find ls v).1.routers.length 0 (S.from1 ls v)
theorem iter_len {α β : Type} {f : List β → α → List β} {xs : List α} {d : α} (c : Nat) (hf : ∀ s a, (f s a).length ≤ s.length + c) : ∀ (n : Nat) (i : Int) (s : List β), (S.iter f xs d n i s).length ≤ s.length + c * n
  | 0, _, s => by simp [S.iter]
  | n + 1, i, s => by
    have h1 := iter_len (xs := xs) (d := d) c hf n (i + 1) (f s (xs.getD i.toNat d))
    have h2 := hf s (xs.getD i.toNat d)
    rw [S.iter, Nat.mul_succ]
    omega
theorem iterI_len {β : Type} {f : Int → List β → List β} (c : Nat) (hf : ∀ i s, (f i s).length ≤ s.length + c) : ∀ (n : Nat) (i : Int) (s : List β), (S.iterI f n i s).length ≤ s.length + c * n
  | 0, _, s => by simp [S.iterI]
  | n + 1, i, s => by
    have h1 := iterI_len c hf n (i + 1) (f i s)
    have h2 := hf i s
    rw [S.iterI, Nat.mul_succ]
    omega
theorem from1_len {ls : List Lsa} (h : S.okLsas ls = true) (v : Vert) : (S.from1 ls v).length ≤ 536870912 := by
  have h1 := iter_len (f := S.linkStep ls v) (xs := (S.find ls v).1.links) (d := zero .link) 2 (fun s a => linkStep_len ls v s a) (S.find ls v).1.links.length 0 []
  have h2 := find_ok h v
  simp only [S.okLsa, Bool.and_eq_true] at h2
  have h3 := tiny_r h2.1
  unfold S.from1
  simp only [List.length_nil] at h1
  omega
theorem from_len {ls : List Lsa} (h : S.okLsas ls = true) (v : Vert) : (S.from ls v).length ≤ 805306368 := by
  have h1 := iterI_len (f := S.roStep ls v (S.find ls v).1.routers) 1 (fun i s => roStep_len ls v _ i s) (S.find ls v).1.routers.length 0 (S.from1 ls v)
  have h2 := find_ok h v
  simp only [S.okLsa, Bool.and_eq_true] at h2
  have h3 := tiny_r h2.2
  have h4 := from1_len h v
  unfold S.from
  omega
theorem loops52 : ∀ c', c' ∈ loopsOf (bodyOf Try.f52) → ∀ lc, look [(4, lc52a), (19, lc52b)] (headId c') = some lc → LoopOK Try.prog 154 c' lc := by
  have h : loopsOf (bodyOf Try.f52) = [c52a, c52b] := by kernel_rfl
  have h1 : headId c52a = 4 := by kernel_rfl
  have h2 : headId c52b = 19 := by kernel_rfl
  rw [h]
  intro c' hc lc hlc
  simp only [List.mem_cons, List.not_mem_nil, or_false] at hc
  rcases hc with rfl | rfl
  · rw [h1] at hlc; obtain rfl := Option.some.inj hlc; exact lok52a
  · rw [h2] at hlc; obtain rfl := Option.some.inj hlc; exact lok52b
def sm52 : Summary := mkSm [.sl .lsa, .vert] (fun ((ls : List Lsa), _) => [S.okLsas ls]) fun ((ls : List Lsa), (v : Vert), _) => .fresh (.v (.c (.sl .edge (S.from ls v))))
theorem ok52 : SumOK Try.prog 52 sm52 := by
  refine sum_ev Try.f52 (lv := lv52) (lcs := [(4, lc52a), (19, lc52b)]) (sig := sg52) (by kernel_rfl) ⟨by kernel_rfl, by kernel_rfl, by kernel_rfl⟩ sok52 loops52 ?_
  rintro ⟨(ls : List Lsa), (v : Vert), _⟩ hpre
  have hp : S.okLsas ls = true := by simpa using hpre
  have c1 : S.okLen ls.length = true := by
    have h := hp
    simp only [S.okLsas, Bool.and_eq_true] at h
    exact tiny_ok h.1
  have c2 := find_ok hp v
  have c3 := from1_len hp v
  suffices hnf : S.okLen ls.length = true ∧ true = true ∧ true = true ∧ S.okLsas ls = true ∧ S.okLsa (S.find ls v).1 = true ∧ true = true ∧ decide ((S.iter (S.linkStep ls v) (S.find ls v).1.links (zero K.link) (S.find ls v).1.links.length (0 : Int) []).length ≤ (536870912 : Nat)) = true ∧ S.okLsas ls = true ∧ S.okLsa (S.find ls v).1 = true ∧ some (AV.v (V1.c (C.sl K.edge (S.iterI (S.roStep ls v (S.find ls v).1.routers) (S.find ls v).1.routers.length (0 : Int) (S.iter (S.linkStep ls v) (S.find ls v).1.links (zero K.link) (S.find ls v).1.links.length (0 : Int) []))))) = some (AV.v (V1.c (C.sl K.edge (S.from ls v)))) by (apply nfto hnf; kernel_rfl)
  exact ⟨c1, rfl, rfl, hp, c2, rfl, decide_eq_true c3, hp, c2, rfl⟩
end Go.Proofs.Ytoknhjmcoleejaa
