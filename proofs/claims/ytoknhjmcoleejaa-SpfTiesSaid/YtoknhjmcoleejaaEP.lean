/- Regions that draw their order: where no two unordered operations meet, the text's order stands for all. No condition. -/
import Derived.Test.YtoknhjmcoleejaaEO
set_option linter.unusedVariables false
set_option linter.unusedSimpArgs false
namespace Go.Proofs.Ytoknhjmcoleejaa
section
variable {R : RT} {P : Program} {w0 w w' : World} {N : Nat} {ops : Array Oper} {μ μ' : Nat → Gh} {r r2 : RS} {a : Act} {sig : List (Nat × Summary)}

/-! ### places -/
def get (r : RS) (l : Bool × Nat) : Option ((Tag × AV) ⊕ Blk) := bif l.1 then (look r.s l.2).map .inl else (look r.b l.2).map .inr
theorem get_s (h : ∀ l, get r2 l = get r l) (q : Nat) : look r2.s q = look r.s q := by
  have := h (true, q)
  simp only [get, cond_true] at this
  cases h1 : look r2.s q <;> cases h2 : look r.s q <;> rw [h1, h2] at this <;> simp at this <;> simp [this]
theorem get_s1 {q : Nat} (h : get r2 (true, q) = get r (true, q)) : look r2.s q = look r.s q := by
  simp only [get, cond_true] at h
  cases h1 : look r2.s q <;> cases h2 : look r.s q <;> rw [h1, h2] at h <;> simp at h <;> simp [h]
theorem get_b1 {q : Nat} (h : get r2 (false, q) = get r (false, q)) : look r2.b q = look r.b q := by
  simp only [get, cond_false] at h
  cases h1 : look r2.b q <;> cases h2 : look r.b q <;> rw [h1, h2] at h <;> simp at h <;> simp [h]
def wof (d : Option Nat) (x : OR) : List (Bool × Nat) := d.toList.map (true, ·) ++ ((match x.nb with | some _ => d.toList | none => []) ++ x.wb.map (·.1)).map (false, ·)
theorem putBs_out : ∀ (m l : List (Nat × Blk)) (q : Nat), q ∉ m.map (·.1) → look (putBs l m) q = look l q
  | [], l, q, _ => rfl
  | p :: m, l, q, h => by
    simp only [List.map_cons, List.mem_cons, not_or] at h
    rw [putBs, putBs_out m _ q h.2, look_put, if_neg h.1]
theorem putBs_in : ∀ (m l l2 : List (Nat × Blk)) (q : Nat), q ∈ m.map (·.1) → look (putBs l m) q = look (putBs l2 m) q
  | [], l, l2, q, h => by cases h
  | p :: m, l, l2, q, h => by
    by_cases hq : q ∈ m.map (·.1)
    · rw [putBs, putBs]; exact putBs_in m _ _ q hq
    · rw [putBs, putBs, putBs_out m _ q hq, putBs_out m _ q hq, look_put, look_put]
      simp only [List.map_cons, List.mem_cons] at h
      rcases h with h | h
      · rw [if_pos h, if_pos h]
      · exact absurd h hq
theorem after_out {t : Tag} {d : Option Nat} {x : OR} (hk : x.kl = []) {l : Bool × Nat} (h : l ∉ wof d x) : get (after r t d x) l = get r l := by
  obtain ⟨b, q⟩ := l
  unfold wof at h
  simp only [List.mem_append, List.mem_map, Prod.mk.injEq, not_or, not_exists, not_and] at h
  cases d with
  | none =>
    simp only [after, hk, killL]
    cases b with
    | true => rfl
    | false =>
      simp only [get, cond_false]
      rw [putBs_out _ _ q (fun hm => h.2 q (Or.inr (by simpa using hm)) rfl rfl)]
  | some d =>
    simp only [after, hk, killL]
    cases b with
    | true =>
      have : q ≠ d := fun e => h.1 q (by simp [e]) rfl rfl
      simp only [get, cond_true, look_put, if_neg this]
    | false =>
      have hwb : q ∉ x.wb.map (·.1) := fun hm => h.2 q (Or.inr (by simpa using hm)) rfl rfl
      cases hn : x.nb with
      | none => simp only [get, cond_false]; rw [putBs_out _ _ q hwb]
      | some k =>
        have hqd : q ≠ d := fun e => h.2 q (Or.inl (by simp [hn, e])) rfl rfl
        simp only [get, cond_false, look_put, if_neg hqd]
        rw [putBs_out _ _ q hwb]
theorem after_in {t : Tag} {d : Option Nat} {x : OR} (hk : x.kl = []) {l : Bool × Nat} (h : l ∈ wof d x) : get (after r t d x) l = get (after r2 t d x) l := by
  obtain ⟨b, q⟩ := l
  unfold wof at h
  simp only [List.mem_append, List.mem_map, Prod.mk.injEq] at h
  cases d with
  | none =>
    simp only [after, hk, killL]
    rcases h with ⟨q', h1, _⟩ | ⟨q', h1, h2, h3⟩
    · simp at h1
    · subst h2; subst h3
      simp only [get, cond_false]
      rcases h1 with h1 | h1
      · cases hn : x.nb <;> rw [hn] at h1 <;> simp at h1
      · rw [putBs_in _ _ r2.b q' (by simpa using h1)]
  | some d =>
    simp only [after, hk, killL]
    rcases h with ⟨q', h1, h2, h3⟩ | ⟨q', h1, h2, h3⟩
    · subst h2; subst h3
      simp at h1
      subst h1
      simp only [get, cond_true, look_put, if_true]
    · subst h2; subst h3
      simp only [get, cond_false]
      cases hn : x.nb with
      | none =>
        rw [hn] at h1
        rcases h1 with h1 | h1
        · simp at h1
        · dsimp only; rw [putBs_in _ _ r2.b q' (by simpa using h1)]
      | some k =>
        simp only [look_put]
        by_cases e : q' = d
        · rw [if_pos e, if_pos e]
        · rw [if_neg e, if_neg e]
          rw [hn] at h1
          rcases h1 with h1 | h1
          · simp at h1; exact absurd h1 e
          · rw [putBs_in _ _ r2.b q' (by simpa using h1)]

/-! ### part of the operations -/
def msk : List Item → (Nat → Bool) → RS → RS
  | [], _, r => r
  | a :: l, L, r => msk l L (bif L a.i then after r a.t a.d a.x else r)
theorem msk_append (l m : List Item) (L : Nat → Bool) : ∀ r, msk (l ++ m) L r = msk m L (msk l L r) := by
  induction l with
  | nil => intro r; rfl
  | cons a l ih => intro r; simp only [List.cons_append, msk]; exact ih _
theorem msk_agree {L L2 : Nat → Bool} {l : Bool × Nat} : ∀ (its : List Item) (r r2 : RS), (∀ a ∈ its, a.x.kl = []) → get r l = get r2 l → (∀ a ∈ its, l ∈ wof a.d a.x → L a.i = L2 a.i) → get (msk its L r) l = get (msk its L2 r2) l
  | [], r, r2, _, h, _ => h
  | a :: its, r, r2, hk, h, hl => by
    simp only [msk]
    refine msk_agree its _ _ (fun b hb => hk b (by simp [hb])) ?_ (fun b hb => hl b (by simp [hb]))
    have hka := hk a (by simp)
    by_cases hm : l ∈ wof a.d a.x
    · rw [hl a (by simp) hm]
      cases L2 a.i with
      | true => exact after_in hka hm
      | false => exact h
    · cases L a.i <;> cases L2 a.i <;> simp only [cond_true, cond_false] <;> (try rw [after_out hka hm]) <;> (try rw [after_out hka hm]) <;> exact h
/-- Items that don't write a place leave it. -/
theorem msk_out {L : Nat → Bool} {l : Bool × Nat} : ∀ (its : List Item) (r : RS), (∀ a ∈ its, a.x.kl = []) → (∀ a ∈ its, L a.i = true → l ∉ wof a.d a.x) → get (msk its L r) l = get r l
  | [], r, _, _ => rfl
  | a :: its, r, hk, h => by
    simp only [msk]
    rw [msk_out its _ (fun b hb => hk b (by simp [hb])) (fun b hb => h b (by simp [hb]))]
    cases hL : L a.i with
    | true => exact after_out (hk a (by simp)) (h a (by simp) hL)
    | false => rfl

structure ItemOK (sig : List (Nat × Summary)) (N : Nat) (ops : Array Oper) (cs : List Bool) (r : RS) (a : Item) : Prop where
  kl : a.x.kl = []
  ev : ∃ o c r', ops[a.i]? = some o ∧ evStep sig N ops r o = some (c, r', a.x) ∧ (∀ b ∈ c, b ∈ cs) ∧ a.t = o.guard ∧ a.d = o.dst ∧ a.f = fpOf ops r o a.x
theorem evItems_r : ∀ {l : List Nat} {r : RS} {cs : List Bool} {r' : RS} {its : List Item}, evItems sig N ops l r = some (cs, r', its) → its.map (·.i) = l ∧ msk its (fun _ => true) r = r' ∧
    ∀ pre a post, its = pre ++ a :: post → ItemOK sig N ops cs (msk pre (fun _ => true) r) a
  | [], r, cs, r', its, h => by
    simp only [evItems, Option.some.injEq, Prod.mk.injEq] at h
    obtain ⟨rfl, rfl, rfl⟩ := h
    exact ⟨rfl, rfl, fun pre a post e => by simp at e⟩
  | i :: l, r, cs, r', its, h => by
    simp only [evItems] at h
    split at h
    · cases h
    · rename_i o ho
      split at h
      · rename_i c1 r1 x h1
        split at h
        · rename_i ds r2 m hk h2
          simp only [Option.some.injEq, Prod.mk.injEq] at h
          obtain ⟨rfl, rfl, rfl⟩ := h
          obtain ⟨q1, q2, q3⟩ := evItems_r h2
          have hs := evStep_shape h1
          refine ⟨by simp [q1], by simp only [msk, cond_true]; rw [← hs]; exact q2, fun pre a post e => ?_⟩
          cases pre with
          | nil =>
            simp only [List.nil_append, List.cons.injEq] at e
            obtain ⟨rfl, rfl⟩ := e
            exact ⟨hk, o, c1, r1, ho, h1, fun b hb => by simp [hb], rfl, rfl, rfl⟩
          | cons p pre =>
            simp only [List.cons_append, List.cons.injEq] at e
            obtain ⟨rfl, rfl⟩ := e
            have := q3 pre a post rfl
            simp only [msk, cond_true]
            rw [← hs]
            exact ⟨this.kl, by obtain ⟨o', c', r'', e1, e2, e3, e4⟩ := this.ev; exact ⟨o', c', r'', e1, e2, fun b hb => by simp [e3 b hb], e4⟩⟩
        · cases h
      · cases h
theorem meet_iff {l m : List Nat} : meet l m = true ↔ ∃ n, n ∈ l ∧ n ∈ m := by simp [meet, nmem_iff]
/-- The footprints' places. -/
theorem wof_fp {o : Oper} {x : OR} {l : Bool × Nat} : l ∈ wof o.dst x ↔ (l.1 = true ∧ l.2 ∈ (fpOf ops r o x).ws) ∨ (l.1 = false ∧ l.2 ∈ (fpOf ops r o x).wb) := by
  obtain ⟨b, q⟩ := l
  simp only [wof, fpOf, List.mem_append, List.mem_map, Prod.mk.injEq]
  constructor
  · rintro (⟨q', h1, rfl, rfl⟩ | ⟨q', h1, rfl, rfl⟩)
    · exact .inl ⟨rfl, h1⟩
    · exact .inr ⟨rfl, h1⟩
  · rintro (⟨rfl, h⟩ | ⟨rfl, h⟩)
    · exact .inl ⟨q, h, rfl, rfl⟩
    · exact .inr ⟨q, h, rfl, rfl⟩
def rdp (f : FP) (l : Bool × Nat) : Prop := (l.1 = true ∧ l.2 ∈ f.rs) ∨ (l.1 = false ∧ l.2 ∈ f.rb)
def wrp (f : FP) (l : Bool × Nat) : Prop := (l.1 = true ∧ l.2 ∈ f.ws) ∨ (l.1 = false ∧ l.2 ∈ f.wb)
theorem conf_no {f g : FP} (h : conf f g = false) (l : Bool × Nat) : (wrp f l → ¬ rdp g l ∧ ¬ wrp g l) ∧ (wrp g l → ¬ rdp f l) := by
  unfold conf at h
  simp only [Bool.or_eq_false_iff] at h
  obtain ⟨⟨⟨h1, h2⟩, h3⟩, h4⟩ := h
  have k : ∀ {l m : List Nat}, meet l m = false → ∀ n, n ∈ l → n ∉ m := by
    intro l m h n hn hm
    have := meet_iff.2 ⟨n, hn, hm⟩
    rw [h] at this; cases this
  obtain ⟨b, q⟩ := l
  cases b with
  | true =>
    simp only [wrp, rdp, true_and, Bool.true_eq_false, false_and, or_false]
    exact ⟨fun hw => ⟨fun hr => k h1 q hw (by simp [hr]), fun hr => k h1 q hw (by simp [hr])⟩, fun hw hr => k h2 q hw hr⟩
  | false =>
    simp only [wrp, rdp, true_and, Bool.false_eq_true, false_and, false_or]
    exact ⟨fun hw => ⟨fun hr => k h3 q hw (by simp [hr]), fun hr => k h3 q hw (by simp [hr])⟩, fun hw hr => k h4 q hw hr⟩

/-! ### what must come ahead -/
def Cl (ops : Array Oper) (L : Nat → Bool) : Prop := ∀ k o, ops[k]? = some o → L k = true → ∀ e, e ∈ depsOf o → L e = true
theorem orBits_r {ms : List Nat} {i : Nat} : ∀ (l : List Nat) (s : Nat), (l.foldl (fun s e => s ||| 2 ^ e ||| ms.getD e 0) s).testBit i = true → s.testBit i = true ∨ ∃ e, e ∈ l ∧ (e = i ∨ (ms.getD e 0).testBit i = true)
  | [], s, h => .inl h
  | e :: l, s, h => by
    simp only [List.foldl_cons] at h
    rcases orBits_r l _ h with h | ⟨e', h1, h2⟩
    · simp only [Nat.testBit_or, Bool.or_eq_true] at h
      rcases h with (h | h) | h
      · exact .inl h
      · refine .inr ⟨e, by simp, .inl ?_⟩
        rw [Nat.testBit_two_pow] at h
        exact of_decide_eq_true h
      · exact .inr ⟨e, by simp, .inr h⟩
    · exact .inr ⟨e', by simp [h1], h2⟩
theorem ancs_r : ∀ (l : List Oper) (ms : List Nat), (l.foldl (fun ms o => ms ++ [orBits ms (depsOf o)]) ms).length = ms.length + l.length ∧
    (l.foldl (fun ms o => ms ++ [orBits ms (depsOf o)]) ms).take ms.length = ms ∧
    ∀ j o, l[j]? = some o → (l.foldl (fun ms o => ms ++ [orBits ms (depsOf o)]) ms)[ms.length + j]? = some (orBits ((l.foldl (fun ms o => ms ++ [orBits ms (depsOf o)]) ms).take (ms.length + j)) (depsOf o))
  | [], ms => ⟨by simp, by simp, fun j o h => by simp at h⟩
  | x :: l, ms => by
    simp only [List.foldl_cons]
    obtain ⟨h1, h2, h3⟩ := ancs_r l (ms ++ [orBits ms (depsOf x)])
    simp only [List.length_append, List.length_cons, List.length_nil, Nat.zero_add] at h1 h2 h3
    refine ⟨by rw [h1]; simp; omega, ?_, fun j o hj => ?_⟩
    · have := congrArg (List.take ms.length) h2
      rw [List.take_take] at this
      simpa [Nat.min_eq_left (Nat.le_succ _)] using this
    · cases j with
      | zero =>
        simp at hj
        subst hj
        have h4 : (l.foldl (fun ms o => ms ++ [orBits ms (depsOf o)]) (ms ++ [orBits ms (depsOf x)])).take ms.length = ms := by
          have := congrArg (List.take ms.length) h2
          rw [List.take_take] at this
          simpa [Nat.min_eq_left (Nat.le_succ _)] using this
        rw [Nat.add_zero, h4]
        have := congrArg (·[ms.length]?) h2
        simp only [List.getElem?_take] at this
        rw [if_pos (by omega)] at this
        rw [this]
        simp
      | succ j =>
        have := h3 j o (by simpa using hj)
        rw [show ms.length + (j + 1) = ms.length + 1 + j by omega]
        exact this
theorem anc_listed {L : Nat → Bool} (hd : (List.range ops.size).all (depsBelow ops) = true) (hcl : Cl ops L) : ∀ (j : Nat) (o : Oper) (i : Nat), ops[j]? = some o → (∀ e, e ∈ depsOf o → L e = true) → ((ancs ops.toList).getD j 0).testBit i = true → L i = true := by
  intro j
  induction j using Nat.strongRecOn with
  | _ j ih =>
    intro o i ho hdeps hb
    have hj := (Array.getElem?_eq_some_iff.1 ho).1
    obtain ⟨h1, h2, h3⟩ := ancs_r ops.toList []
    have hms : (ancs ops.toList)[j]? = some (orBits ((ancs ops.toList).take j) (depsOf o)) := by
      have := h3 j o (by simpa using ho)
      simp only [List.length_nil, Nat.zero_add] at this
      exact this
    have hg : (ancs ops.toList).getD j 0 = orBits ((ancs ops.toList).take j) (depsOf o) := by simp [List.getD_eq_getElem?_getD, hms]
    rw [hg] at hb
    rcases orBits_r _ _ hb with h | ⟨e, he, h⟩
    · simp at h
    · rcases h with h | h
      · exact h ▸ hdeps e he
      · have hbel := List.all_eq_true.1 hd j (by simpa using hj)
        unfold depsBelow at hbel
        rw [ho] at hbel
        simp only [Bool.and_eq_true] at hbel
        have hlt : e < j := Nat.le_of_ble_eq_true (List.all_eq_true.1 hbel.1 e he)
        have helt : e < ops.size := by omega
        have hoe : ops[e]? = some ops[e] := Array.getElem?_eq_getElem helt
        refine ih e hlt ops[e] i hoe (fun e' he' => hcl e _ hoe (hdeps e he) e' he') ?_
        have : ((ancs ops.toList).take j).getD e 0 = (ancs ops.toList).getD e 0 := by
          simp [List.getD_eq_getElem?_getD, List.getElem?_take, hlt]
        rwa [this] at h
theorem allSet_r {b : Nat} : ∀ {n : Nat}, allSet b n = true → ∀ i, i < n → b.testBit i = true
  | 0, _, i, h => by omega
  | n + 1, h, i, hi => by
    simp only [allSet, Bool.and_eq_true] at h
    rcases Nat.lt_or_ge i n with h1 | h1
    · exact allSet_r h.2 i h1
    · have : i = n := by omega
      subst this; exact h.1
theorem splitAt_r (ms : List Nat) : ∀ (n : Nat), splitAt ms n ≤ n ∧ ∀ j, splitAt ms n ≤ j → j < n → allSet (ms.getD j 0) j = true
  | 0 => ⟨Nat.le_refl _, fun j h1 h2 => by omega⟩
  | n + 1 => by
    simp only [splitAt]
    cases hb : allSet (ms.getD n 0) n with
    | false => simp only [cond_false]; exact ⟨Nat.le_refl _, fun j h1 h2 => by omega⟩
    | true =>
      simp only [cond_true]
      obtain ⟨h1, h2⟩ := splitAt_r ms n
      refine ⟨by omega, fun j h3 h4 => ?_⟩
      rcases Nat.lt_or_ge j n with h5 | h5
      · exact h2 j h3 h5
      · have : j = n := by omega
        subst this; exact hb
end
end Go.Proofs.Ytoknhjmcoleejaa
