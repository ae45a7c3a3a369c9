/- Arguments taken apart and put together; a contract by its arguments' kinds; a function's results. No condition. -/
import Derived.Test.YtoknhjmcoleejaaFM
set_option linter.unusedVariables false
set_option linter.unusedSimpArgs false
namespace Go.Proofs.Ytoknhjmcoleejaa
open Go.RowKit

/-- A slice's cell, exactly. -/
def slX (kk : K) : C → Option (List (ty kk))
  | .sl k xs => if h : k.no = kk.no then some ((elemsOf.K.no_inj h) ▸ xs) else none
  | _ => none
theorem slX_r {kk : K} {c : C} {xs : List (ty kk)} (h : slX kk c = some xs) : c = .sl kk xs := by
  unfold slX at h
  split at h
  · rename_i k ys
    split at h
    · rename_i hno
      obtain rfl := elemsOf.K.no_inj hno
      obtain rfl := Option.some.inj h
      rfl
    · cases h
  · cases h
def popX {α : Type} (kk : K) : List C → (List (ty kk) → List C → Option α) → Option α
  | c :: l, k => match slX kk c with | some n => k n l | none => none
  | [], _ => none
theorem popI_r {α : Type} {cs : List C} {k : Int → List C → Option α} {a : α} (h : popI cs k = some a) : ∃ n l, cs = i64 n :: l ∧ k n l = some a := by
  cases cs with
  | nil => cases h
  | cons c l =>
    simp only [popI] at h
    cases hc : intOf c with
    | none => rw [hc] at h; cases h
    | some n => rw [hc] at h; exact ⟨n, l, by rw [intOf_r hc], h⟩
theorem popB_r {α : Type} {cs : List C} {k : Bool → List C → Option α} {a : α} (h : popB cs k = some a) : ∃ n l, cs = bo n :: l ∧ k n l = some a := by
  cases cs with
  | nil => cases h
  | cons c l =>
    simp only [popB] at h
    cases hc : boolOf c with
    | none => rw [hc] at h; cases h
    | some n => rw [hc] at h; exact ⟨n, l, by rw [boolOf_r hc], h⟩
theorem popX_r {α : Type} {kk : K} {cs : List C} {k : List (ty kk) → List C → Option α} {a : α} (h : popX kk cs k = some a) : ∃ n l, cs = .sl kk n :: l ∧ k n l = some a := by
  cases cs with
  | nil => cases h
  | cons c l =>
    simp only [popX] at h
    cases hc : slX kk c with
    | none => rw [hc] at h; cases h
    | some n => rw [hc] at h; exact ⟨n, l, by rw [slX_r hc], h⟩
theorem fin0_r {α : Type} {cs : List C} {a b : α} (h : fin0 cs a = some b) : cs = [] ∧ a = b := by
  cases cs with
  | nil => exact ⟨rfl, Option.some.inj h⟩
  | cons _ _ => cases h

/-- The kinds of arguments. -/
inductive AK where
  | int | bool | u8 | sl (k : K) | vert | edge | node | route | link | outp | tmap | lsa | near | port
  /-- a pointer to an element; a function value with one such pointer; one with none -/
  | rel (k : K) | fn1 (f : Nat) (k : K) | fn0 (f : Nat) | head
  /-- an integer of a kind, as a number -/
  | ik (q : IntKind)
abbrev AK.T : AK → Type
  | .int => Int | .bool => Bool | .u8 => UInt8 | .sl k => List (ty k) | .vert => Vert | .edge => Edge | .node => Node | .route => Route | .link => Link | .outp => Outp | .tmap => TMap | .lsa => Lsa | .near => Near | .port => Port | .rel k => ty k | .fn1 _ k => ty k | .fn0 _ => Unit | .head => Head | .ik _ => Int
def AK.enc : (a : AK) → a.T → AV
  | .int, (x : Int) => .v (.c (i64 x))
  | .bool, (x : Bool) => .v (.c (bo x))
  | .u8, (x : UInt8) => .v (.c (.val (.int .u8 (x.toNat : Int))))
  | .sl k, (x : List (ty k)) => .v (.c (.sl k x))
  | .vert, x => .v (.agg (cells .vert x))
  | .edge, x => .v (.agg (cells .edge x))
  | .node, x => .v (.agg (cells .node x))
  | .route, x => .v (.agg (cells .route x))
  | .link, x => .v (.agg (cells .link x))
  | .outp, x => .v (.agg (cells .outp x))
  | .tmap, (x : TMap) => .v (.agg x.cells)
  | .lsa, x => .v (.agg (cells .lsa x))
  | .near, x => .v (.agg (cells .near x))
  | .port, x => .v (.agg (cells .port x))
  | .rel k, (x : ty k) => .v (.c (.rel k x 0))
  | .fn1 f k, (x : ty k) => .fn f [.c (.rel k x 0)]
  | .fn0 f, _ => .fn f []
  | .head, (x : Head) => .v (.agg x.cells)
  | .ik q, (x : Int) => .v (.c (.val (.int q x)))
def tmapX (cs : List C) : Option TMap := popX .vert cs fun a l => popX .edge l fun b l => popX .stub l fun c l => popX .span l fun d l => popX .int l fun e l => fin0 l (⟨a, b, c, d, e⟩ : TMap)
def lsaX (cs : List C) : Option Lsa := popI cs fun h1 l => popI l fun h2 l => popI l fun h3 l => popI l fun h4 l => popI l fun h5 l => popI l fun h6 l => popI l fun h7 l => popI l fun fl l => popX .link l fun ls l => popI l fun bi l => popX .int l fun rs l => popX .vert l fun vs l => fin0 l (⟨⟨h1, h2, h3, h4, h5, h6, h7⟩, fl, ls, bi, rs, vs⟩ : Lsa)
def portX (cs : List C) : Option Port := popI cs fun a l => popI l fun b l => popI l fun c l => popI l fun d l => popI l fun e l => popI l fun f l => popI l fun g l => popI l fun h l => popI l fun i l => popX .near l fun fu l => popX .int l fun gr l => fin0 l (⟨⟨a, b, c, d, e, f, g, h, i⟩, fu, gr⟩ : Port)
def headX (cs : List C) : Option Head := popI cs fun h1 l => popI l fun h2 l => popI l fun h3 l => popI l fun h4 l => popI l fun h5 l => popI l fun h6 l => popI l fun h7 l => fin0 l (⟨h1, h2, h3, h4, h5, h6, h7⟩ : Head)
def onAgg {α : Type} (f : List C → Option α) : AV → Option α
  | .v (.agg cs) => f cs
  | _ => none
def decI : AV → Option Int
  | .v (.c c) => intOf c
  | _ => none
def decB : AV → Option Bool
  | .v (.c c) => boolOf c
  | _ => none
def u8Of : C → Option UInt8
  | .val (.int .u8 n) => if 0 ≤ n ∧ n < 256 then some (UInt8.ofNat n.toNat) else none
  | _ => none
def decU : AV → Option UInt8
  | .v (.c c) => u8Of c
  | _ => none
def decS (k : K) : AV → Option (List (ty k))
  | .v (.c c) => slX k c
  | _ => none
def relX (kk : K) : C → Option (ty kk)
  | .rel k x 0 => if h : k.no = kk.no then some ((elemsOf.K.no_inj h) ▸ x) else none
  | _ => none
theorem relX_r {kk : K} {c : C} {x : ty kk} (h : relX kk c = some x) : c = .rel kk x 0 := by
  unfold relX at h
  split at h
  · split at h
    · rename_i hno
      obtain rfl := elemsOf.K.no_inj hno
      obtain rfl := Option.some.inj h
      rfl
    · cases h
  · cases h
def decR (k : K) : AV → Option (ty k)
  | .v (.c c) => relX k c
  | _ => none
def decF1 (f : Nat) (k : K) : AV → Option (ty k)
  | .fn g [.c c] => bif Nat.beq g f then relX k c else none
  | _ => none
def decF0 (f : Nat) : AV → Option Unit
  | .fn g [] => bif Nat.beq g f then some () else none
  | _ => none
def decK (q : IntKind) : AV → Option Int
  | .v (.c (.val (.int q' n))) => if q' = q then some n else none
  | _ => none
theorem decK_r {q : IntKind} {x : AV} {n : Int} (h : decK q x = some n) : x = .v (.c (.val (.int q n))) := by
  unfold decK at h
  split at h
  · split at h
    · rename_i e
      obtain rfl := Option.some.inj h
      rw [e]
    · cases h
  · cases h
def AK.dec : (a : AK) → AV → Option a.T
  | .int, x => decI x
  | .bool, x => decB x
  | .u8, x => decU x
  | .ik q, x => decK q x
  | .sl k, x => decS k x
  | .vert, x => onAgg vertOf x
  | .edge, x => onAgg edgeOf x
  | .node, x => onAgg nodeOf x
  | .route, x => onAgg routeOf x
  | .link, x => onAgg linkOf x
  | .outp, x => onAgg outpOf x
  | .tmap, x => onAgg tmapX x
  | .lsa, x => onAgg lsaX x
  | .near, x => onAgg nearOf x
  | .port, x => onAgg portX x
  | .rel k, x => decR k x
  | .fn1 f k, x => decF1 f k x
  | .fn0 f, x => decF0 f x
  | .head, x => onAgg headX x
theorem onAgg_r {α : Type} {f : List C → Option α} {x : AV} {a : α} (h : onAgg f x = some a) : ∃ cs, x = .v (.agg cs) ∧ f cs = some a := by
  unfold onAgg at h
  split at h
  · exact ⟨_, rfl, h⟩
  · cases h
theorem u8Of_r {c : C} {n : UInt8} (h : u8Of c = some n) : c = .val (.int .u8 (n.toNat : Int)) := by
  unfold u8Of at h
  split at h
  · rename_i m
    split at h
    · rename_i hm
      obtain rfl := Option.some.inj h
      have : ((UInt8.ofNat m.toNat).toNat : Int) = m := by
        rw [UInt8.toNat_ofNat']
        omega
      rw [this]
    · cases h
  · cases h
theorem AK.dec_r {a : AK} {x : AV} {t : a.T} (h : a.dec x = some t) : x = a.enc t := by
  cases a with
  | int =>
    change decI x = some t at h
    unfold decI at h
    split at h
    · exact congrArg (fun c => AV.v (.c c)) (intOf_r h)
    · cases h
  | bool =>
    change decB x = some t at h
    unfold decB at h
    split at h
    · exact congrArg (fun c => AV.v (.c c)) (boolOf_r h)
    · cases h
  | ik q => exact decK_r h
  | u8 =>
    change decU x = some t at h
    unfold decU at h
    split at h
    · exact congrArg (fun c => AV.v (.c c)) (u8Of_r h)
    · cases h
  | sl k =>
    change decS k x = some t at h
    unfold decS at h
    split at h
    · exact congrArg (fun c => AV.v (.c c)) (slX_r h)
    · cases h
  | vert =>
    obtain ⟨cs, rfl, h⟩ := onAgg_r (f := vertOf) h
    obtain ⟨_, _, rfl, h⟩ := popI_r h
    obtain ⟨_, _, rfl, h⟩ := popI_r h
    obtain ⟨rfl, rfl⟩ := fin0_r h
    rfl
  | edge =>
    obtain ⟨cs, rfl, h⟩ := onAgg_r (f := edgeOf) h
    iterate 6 obtain ⟨_, _, rfl, h⟩ := popI_r h
    obtain ⟨rfl, rfl⟩ := fin0_r h
    rfl
  | node =>
    obtain ⟨cs, rfl, h⟩ := onAgg_r (f := nodeOf) h
    iterate 5 obtain ⟨_, _, rfl, h⟩ := popI_r h
    obtain ⟨rfl, rfl⟩ := fin0_r h
    rfl
  | route =>
    obtain ⟨cs, rfl, h⟩ := onAgg_r (f := routeOf) h
    iterate 5 obtain ⟨_, _, rfl, h⟩ := popI_r h
    obtain ⟨rfl, rfl⟩ := fin0_r h
    rfl
  | link =>
    obtain ⟨cs, rfl, h⟩ := onAgg_r (f := linkOf) h
    iterate 4 obtain ⟨_, _, rfl, h⟩ := popI_r h
    obtain ⟨rfl, rfl⟩ := fin0_r h
    rfl
  | outp =>
    obtain ⟨cs, rfl, h⟩ := onAgg_r (f := outpOf) h
    iterate 2 obtain ⟨_, _, rfl, h⟩ := popI_r h
    obtain ⟨rfl, rfl⟩ := fin0_r h
    rfl
  | tmap =>
    obtain ⟨cs, rfl, h⟩ := onAgg_r (f := tmapX) h
    iterate 5 obtain ⟨_, _, rfl, h⟩ := popX_r h
    obtain ⟨rfl, rfl⟩ := fin0_r h
    rfl
  | lsa =>
    obtain ⟨cs, rfl, h⟩ := onAgg_r (f := lsaX) h
    iterate 8 obtain ⟨_, _, rfl, h⟩ := popI_r h
    obtain ⟨_, _, rfl, h⟩ := popX_r h
    obtain ⟨_, _, rfl, h⟩ := popI_r h
    obtain ⟨_, _, rfl, h⟩ := popX_r h
    obtain ⟨_, _, rfl, h⟩ := popX_r h
    obtain ⟨rfl, rfl⟩ := fin0_r h
    rfl
  | near =>
    obtain ⟨cs, rfl, h⟩ := onAgg_r (f := nearOf) h
    iterate 5 obtain ⟨_, _, rfl, h⟩ := popI_r h
    obtain ⟨_, _, rfl, h⟩ := popB_r h
    obtain ⟨_, _, rfl, h⟩ := popI_r h
    obtain ⟨rfl, rfl⟩ := fin0_r h
    rfl
  | port =>
    obtain ⟨cs, rfl, h⟩ := onAgg_r (f := portX) h
    iterate 9 obtain ⟨_, _, rfl, h⟩ := popI_r h
    iterate 2 obtain ⟨_, _, rfl, h⟩ := popX_r h
    obtain ⟨rfl, rfl⟩ := fin0_r h
    rfl
  | rel k =>
    change decR k x = some t at h
    unfold decR at h
    split at h
    · exact congrArg (fun c => AV.v (.c c)) (relX_r h)
    · cases h
  | fn1 f k =>
    change decF1 f k x = some t at h
    unfold decF1 at h
    split at h
    · rename_i g c
      cases hg : Nat.beq g f with
      | false => rw [hg] at h; cases h
      | true =>
        rw [hg, cond_true] at h
        rw [Nat.eq_of_beq_eq_true hg, relX_r h]
        rfl
    · cases h
  | fn0 f =>
    change decF0 f x = some t at h
    unfold decF0 at h
    split at h
    · rename_i g
      cases hg : Nat.beq g f with
      | false => rw [hg] at h; cases h
      | true =>
        rw [Nat.eq_of_beq_eq_true hg]
        rfl
    · cases h
  | head =>
    obtain ⟨cs, rfl, h⟩ := onAgg_r (f := headX) h
    iterate 7 obtain ⟨_, _, rfl, h⟩ := popI_r h
    obtain ⟨rfl, rfl⟩ := fin0_r h
    rfl
abbrev ATs : List AK → Type
  | [] => Unit
  | a :: l => a.T × ATs l
def encs : (l : List AK) → ATs l → List AV
  | [], _ => []
  | a :: l, (x, y) => a.enc x :: encs l y
def decs : (l : List AK) → List AV → Option (ATs l)
  | [], [] => some ()
  | a :: l, v :: vs => match a.dec v, decs l vs with
    | some x, some y => some (x, y)
    | _, _ => none
  | _, _ => none
theorem decs_r : ∀ {l : List AK} {vs : List AV} {x : ATs l}, decs l vs = some x → vs = encs l x
  | [], [], x, h => rfl
  | a :: l, v :: vs, x, h => by
    simp only [decs] at h
    split at h
    · rename_i y z h1 h2
      obtain rfl := Option.some.inj h
      rw [AK.dec_r h1, decs_r h2]
      rfl
    · cases h
  | [], _ :: _, x, h => by cases h
  | _ :: _, [], x, h => by cases h
/-- A contract: the arguments' kinds, what must hold, the result. -/
def mkSm (l : List AK) (pre : ATs l → List Bool) (res : ATs l → SR) : Summary := fun vs => match decs l vs with
  | some x => some (pre x, res x)
  | none => none
/-! ### results, computed -/
def outF (rs : List ResultVar) (ts : List TypeId) (st : St) : Option AV :=
  match resVs st rs with
  | some xs => bif xs.all (freshV st) then match outVs st ts xs with
    | some ys => some (packV ys)
    | none => none
    else none
  | none => none
def outL (rs : List ResultVar) (ts : List TypeId) (st : St) : Option AV :=
  match resVs st rs with
  | some xs => match outVs st ts xs with
    | some ys => some (packV ys)
    | none => none
  | none => none
def outR (rs : List ResultVar) (k : K) (st : St) : Option (List (ty k)) :=
  bif flatK k then match resVs st rs with
    | some [.c (.own b)] => match look st.b b with
      | some (.arr k' xs) => if h : k'.no = k.no then some ((elemsOf.K.no_inj h) ▸ xs) else none
      | _ => none
    | some [.c (.val (.slice none 0 0))] => some []
    | _ => none
    else none
def endP1 (rs : List ResultVar) (ts : List TypeId) (st : St) : SR → Prop
  | .fresh v => outF rs ts st = some v
  | .lent v => outL rs ts st = some v
  | .row k xs => outR rs k st = some xs
  | .grow _ _ => False
def endP (rs : List ResultVar) (ts : List TypeId) (v : SR) : Exit → St → Prop
  | .normal, st => endP1 rs ts st v
  | .ret, st => endP1 rs ts st v
  | _, _ => False
theorem endP1_r {rs : List ResultVar} {ts : List TypeId} {st : St} {v : SR} (h : endP1 rs ts st v) : endOK rs ts st v := by
  cases v with
  | fresh v =>
    change outF rs ts st = some v at h
    unfold outF at h
    split at h
    · rename_i xs h1
      cases hf : xs.all (freshV st) with
      | false => rw [hf] at h; cases h
      | true =>
        rw [hf, cond_true] at h
        split at h
        · rename_i ys h2
          exact ⟨xs, ys, h1, hf, h2, Option.some.inj h⟩
        · cases h
    · cases h
  | lent v =>
    change outL rs ts st = some v at h
    unfold outL at h
    split at h
    · rename_i xs h1
      split at h
      · rename_i ys h2
        exact ⟨xs, ys, h1, h2, Option.some.inj h⟩
      · cases h
    · cases h
  | row k xs =>
    change outR rs k st = some xs at h
    unfold outR at h
    cases hf : flatK k with
    | false => rw [hf] at h; cases h
    | true =>
      rw [hf, cond_true] at h
      refine ⟨hf, ?_⟩
      split at h
      · rename_i b h1
        split at h
        · rename_i k' ys h2
          split at h
          · rename_i hno
            obtain rfl := elemsOf.K.no_inj hno
            obtain rfl := Option.some.inj h
            exact .inl ⟨b, h1, h2⟩
          · cases h
        · cases h
      · rename_i h1
        obtain rfl := Option.some.inj h
        exact .inr ⟨h1, rfl⟩
      · cases h
  | grow _ _ => exact h.elim
/-- A contract out of the evaluator's word on the body. -/
theorem sum_ev {f : FuncId} (fn : Func) {l : List AK} {pre : ATs l → List Bool} {res : ATs l → SR} {sig : List (Nat × Summary)} {lcs : List (Nat × LS)} {lv : List (Nat × List Nat)}
    (hf : Try.prog.funcs[f]? = some fn) (hck : ((fn.name == "runtime.NumGoroutine") = false ∧ fn.body = some (bodyOf fn) ∧ Nat.ble l.length fn.ntmps = true)) (hsig : SigOK Try.prog sig)
    (hl : ∀ c', c' ∈ loopsOf (bodyOf fn) → ∀ lc, look lcs (headId c') = some lc → LoopOK Try.prog fn.ntmps c' lc)
    (h : ∀ x : ATs l, (pre x).all id = true → evC sig lcs fn.ntmps lv (bodyOf fn) ⟨enum 0 (encs l x), []⟩ (endP fn.results.toList fn.resultTypes.toList (res x))) : SumOK Try.prog f (mkSm l pre res) := by
  refine sum_of try_tok hf hck.1 hck.2.1 fun vs cs r hsm hcs => ?_
  unfold mkSm at hsm
  split at hsm
  · rename_i x hx
    obtain ⟨rfl, rfl⟩ := Prod.mk.inj (Option.some.inj hsm)
    obtain rfl := decs_r hx
    refine ⟨?_, (evC_snd try_tok hsig _ _ _ hl (h x hcs)).mono fun e s hq => ?_⟩
    · have : ∀ (l : List AK) (x : ATs l), (encs l x).length = l.length := by
        intro l
        induction l with
        | nil => intro x; rfl
        | cons a l ih => intro x; obtain ⟨y, z⟩ := x; simp [encs, ih]
      rw [this]
      exact Nat.le_of_ble_eq_true hck.2.2
    · cases e with
      | normal => exact endP1_r hq
      | ret => exact endP1_r hq
      | _ => exact hq.elim
  · cases hsm
theorem sig_nil : SigOK Try.prog [] := fun _ _ h => by cases h
theorem sig_cons {f : Nat} {sm : Summary} {sig : List (Nat × Summary)} (h : SumOK Try.prog f sm) (hs : SigOK Try.prog sig) : SigOK Try.prog ((f, sm) :: sig) := by
  intro g s hl
  simp only [look] at hl
  cases hb : Nat.beq f g with
  | true =>
    rw [hb] at hl
    obtain rfl := Option.some.inj hl
    obtain rfl := Nat.eq_of_beq_eq_true hb
    exact h
  | false => rw [hb] at hl; exact hs g s hl
/-- No loops. -/
theorem no_loops {P : Program} {N : Nat} {c : Code} {lcs : List (Nat × LS)} (h : loopsOf c = []) : ∀ c', c' ∈ loopsOf c → ∀ lc, look lcs (headId c') = some lc → LoopOK P N c' lc := by
  intro c' hc
  rw [h] at hc
  cases hc
end Go.Proofs.Ytoknhjmcoleejaa
