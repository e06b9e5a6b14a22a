/-
  Texts of the proof, one behind the other.
-/
import Derived.Test.YtpekhdbkekiblaaGreatDoorLxPe
import Derived.LaidEql
import Derived.LaidLaws
import Derived.Carry
import Derived.ChangeShapes
import Derived.ChangeArms
import Derived.WideShapes
import Derived.RangeFuncLeaves
import Derived.Laws.IdiomCopy
import Derived.ArgAppend
import Derived.Lib.SliceRun

/-
  The abstract machine, part 24: functions and loops told as functions of plain data.
-/
namespace Go.Eng
open Go

/-- a function that is known: of objects and arguments, to objects and answers -/
structure CallSpec (E : Env) where
  f : FuncId
  ps : List Ty
  rs : List Slot
  g : Val (tabsTy E.kinds (E.ks f)) × Val (rowTy ps) → Option (StV E (E.ks f) rs)

/-- how a loop may be left, and what is known then -/
def ExTy (E : Env) (tk : List Nat) : List (AX × List Slot) → Type
  | [] => Empty
  | [e] => StV E tk e.2
  | e :: e' :: r => Sum (StV E tk e.2) (ExTy E tk (e' :: r))

def encEx (E : Env) (tk : List Nat) : (ex : List (AX × List Slot)) → ExTy E tk ex → AX × St
  | [], x => nomatch x
  | [e], x => (e.1, encSlots E tk e.2 x)
  | e :: e' :: r, x => Sum.elim (fun y => (e.1, encSlots E tk e.2 y)) (fun y => encEx E tk (e' :: r) y) x

def exK {R : Type} (E : Env) (tk : List Nat) (k : AX → St → Option R) : (ex : List (AX × List Slot)) → ExTy E tk ex → Option R
  | [], _ => none
  | [e], x => k e.1 (encSlots E tk e.2 x)
  | e :: e' :: r, x => Sum.elim (fun y => k e.1 (encSlots E tk e.2 y)) (fun y => exK E tk k (e' :: r) y) x

theorem exK_eq {R : Type} {E : Env} {tk : List Nat} (k : AX → St → Option R) : ∀ (ex : List (AX × List Slot)) (x : ExTy E tk ex), exK E tk k ex x = k (encEx E tk ex x).1 (encEx E tk ex x).2
  | [], x => nomatch x
  | [e], x => rfl
  | e :: e' :: r, x => by
    cases x with
    | inl y => rfl
    | inr y => simp only [exK, encEx, Sum.elim_inr]; exact exK_eq k (e' :: r) y

structure LoopSpec (E : Env) (tk : List Nat) where
  i : Nat
  head : List Slot
  ex : List (AX × List Slot)
  g : StV E tk head → Option (ExTy E tk ex)

/-- a kind's objects, as they are handed over -/
def tabB? (cs : List Cell) (b : Blk) : Option (List (Val (rowsTy cs))) := match b.ct with
  | .tab cs' l st gs => if h : cs' = cs then (match st.isEmpty && decide (gs = List.replicate ((ownQs cs' 1).length + 1) 0) && Nat.beq b.gen 0 && !b.frozen with
    | true => some (castR h l)
    | false => none) else none
  | _ => none

theorem tabB?_eq {cs : List Cell} {b : Blk} {l : List (Val (rowsTy cs))} (e : tabB? cs b = some l) : b = tabB cs l := by
  unfold tabB? at e
  split at e
  · rename_i cs' l' st gs hct
    split at e
    · rename_i hc
      subst hc
      cases hs : (st.isEmpty && decide (gs = List.replicate ((ownQs cs' 1).length + 1) 0) && Nat.beq b.gen 0 && !b.frozen) with
      | false => simp only [hs] at e; cases e
      | true =>
        simp only [hs] at e
        injection e with e
        simp only [Bool.and_eq_true, decide_eq_true_eq, Bool.not_eq_true'] at hs
        obtain ⟨⟨⟨h1, h2⟩, h3⟩, h4⟩ := hs
        have h1 : st = [] := by simpa using h1
        have h3 : b.gen = 0 := Nat.eq_of_beq_eq_true h3
        subst h1; subst h2
        have e : l' = l := e
        subst e
        obtain ⟨ct, gen, fz⟩ := b
        simp only at hct h3 h4
        rw [hct, h3, h4]
        rfl
    · cases e
  · cases e

def tabsB? (kinds : List (List Cell)) : (tk : List Nat) → List Blk → Option (Val (tabsTy kinds tk))
  | [], [] => some ()
  | k :: r, b :: bs => match tabB? (kinds.getD k []) b with
    | some l => match tabsB? kinds r bs with
      | some z => some (l, z)
      | none => none
    | none => none
  | _, _ => none

theorem tabsB?_eq {kinds : List (List Cell)} : ∀ {tk : List Nat} {bs : List Blk} {t : Val (tabsTy kinds tk)}, tabsB? kinds tk bs = some t → bs = encTabs kinds tk t
  | [], [], _, _ => rfl
  | [], _ :: _, _, e => by simp [tabsB?] at e
  | _ :: _, [], _, e => by simp [tabsB?] at e
  | k :: r, b :: bs, t, e => by
    simp only [tabsB?] at e
    split at e
    · rename_i l hl
      split at e
      · rename_i z hz
        injection e with e
        subst e
        simp only [encTabs]
        rw [tabB?_eq hl, tabsB?_eq hz]
      · cases e
    · cases e

def callT (E : Env) : List (CallSpec E) → CallF
  | [], _, _, _, _ => none
  | c :: r, f, as, bs, n => match Nat.beq c.f f with
    | true => match decL E.toNames c.ps as with
      | some x => match tabsB? E.kinds (E.ks c.f) bs with
        | some t => (c.g (t, x)).map fun y => (packA (encEnv c.rs n y.2), encTabs E.kinds (E.ks c.f) y.1, numb n (encHeap c.rs n y.2))
        | none => callT E r f as bs n
      | none => callT E r f as bs n
    | false => callT E r f as bs n

def callKt {R : Type} (E : Env) : List (CallSpec E) → CallK R
  | [], _, _, _, _, _ => none
  | c :: r, f, as, bs, n, k => match Nat.beq c.f f with
    | true => match decL E.toNames c.ps as with
      | some x => match tabsB? E.kinds (E.ks c.f) bs with
        | some t => (c.g (t, x)).bind fun y => k (packA (encEnv c.rs n y.2)) (encTabs E.kinds (E.ks c.f) y.1) (numb n (encHeap c.rs n y.2))
        | none => callKt E r f as bs n k
      | none => callKt E r f as bs n k
    | false => callKt E r f as bs n k

def loopT (E : Env) (tk : List Nat) (call : CallF) : List (LoopSpec E tk) → Nat → St → Option (AX × St)
  | [], _, _ => none
  | l :: r, i, s => match Nat.beq l.i i with
    | true => match (decSlots E tk l.head s).run call s.rd with
      | some (x, _) => (l.g x).map (encEx E tk l.ex)
      | none => none
    | false => loopT E tk call r i s

def loopKt {R : Type} (E : Env) (tk : List Nat) (callK : CallK R) : List (LoopSpec E tk) → Nat → St → (AX → St → Option R) → Option R
  | [], _, _, _ => none
  | l :: r, i, s, k => match Nat.beq l.i i with
    | true => (decSlots E tk l.head s).runK callK s.rd [] fun x _ => (l.g x).bind fun y => exK E tk k l.ex y
    | false => loopKt E tk callK r i s k

theorem callKt_eq {R : Type} (E : Env) : ∀ (cs : List (CallSpec E)) (f : FuncId) (as : List AV) (bs : List Blk) (n : Nat) (k : AV → List Blk → List (Nat × Blk) → Option R), callKt E cs f as bs n k = (callT E cs f as bs n).bind fun p => k p.1 p.2.1 p.2.2
  | [], _, _, _, _, _ => rfl
  | c :: r, f, as, bs, n, k => by
    simp only [callKt, callT]
    split
    · split
      · split
        · rename_i x _ _ t _
          cases c.g (t, x) <;> rfl
        · exact callKt_eq E r f as bs n k
      · exact callKt_eq E r f as bs n k
    · exact callKt_eq E r f as bs n k

theorem loopKt_eq {R : Type} (E : Env) (tk : List Nat) (cs : List (CallSpec E)) : ∀ (ls : List (LoopSpec E tk)) (i : Nat) (s : St) (k : AX → St → Option R),
    loopKt E tk (callKt E cs) ls i s k = (loopT E tk (callT E cs) ls i s).bind fun p => k p.1 p.2
  | [], _, _, _ => rfl
  | l :: r, i, s, k => by
    simp only [loopKt, loopT]
    split
    · rw [HM.runK_eq (callKt_eq E cs)]
      cases (decSlots E tk l.head s).run (callT E cs) s.rd with
      | none => rfl
      | some p =>
        simp only [Option.bind_some]
        cases l.g p.1 with
        | none => rfl
        | some y => simp only [Option.bind_some, Option.map_some]; exact exK_eq k l.ex y
    · exact loopKt_eq E tk cs r i s k

/-- how a body leaves its loop -/
def leaveK {R : Type} (E : Env) (tk : List Nat) (cs : List (CallSpec E)) : (ex : List (AX × List Slot)) → AX → St → (ExTy E tk ex → Option R) → Option R
  | [], _, _, _ => none
  | [e], x, s, k => match decide (e.1 = x) with
    | true => (decSlots E tk e.2 s).runK (callKt E cs) s.rd [] fun y _ => k y
    | false => none
  | e :: e' :: r, x, s, k => match decide (e.1 = x) with
    | true => (decSlots E tk e.2 s).runK (callKt E cs) s.rd [] fun y _ => k (Sum.inl y)
    | false => leaveK E tk cs (e' :: r) x s fun y => k (Sum.inr y)

/-- what a function answers -/
def finA (E : Env) (tk : List Nat) (fi : FnI) (rs : List Slot) (s : St) : HM (StV E tk rs) := (resA E s fi.results).bind fun l => decSlots E tk rs ⟨l, s.heap⟩

/-- a call's beginning -/
def entryT (E : Env) (tk : List Nat) (fi : FnI) (args : List AV) (bs : List Blk) : St := ⟨args ++ List.replicate (fi.ntmps - args.length) .top, entryH E tk bs⟩

/-- WHAT A FUNCTION ANSWERS, as plain data -/
def FCon (P : Program) (E : Env) (S : Ini) (f : FuncId) (ps : List Ty) (rs : List Slot) (x : Val (tabsTy E.kinds (E.ks f)) × Val (rowTy ps)) (y : StV E (E.ks f) rs) : Prop :=
  ∀ b0, Con P E S f (encL ps x.2) (encTabs E.kinds (E.ks f) x.1) b0 (packA (encEnv rs b0 y.2)) (encTabs E.kinds (E.ks f) y.1) (encHeap rs b0 y.2)

theorem encRowH_blk : ∀ {cs : List Cell} {x : Val (rowsTy cs)} {o : Option Blk}, o ∈ encRowH cs x → ∃ b, o = some b ∧ b.isTab = false
  | [], _, _, h => by cases h
  | .d t :: r, x, o, h => by simp only [encRowH] at h; exact encRowH_blk h
  | .sl t :: r, x, o, h => by
    simp only [encRowH, List.mem_cons] at h
    rcases h with rfl | h
    · exact ⟨_, rfl, rfl⟩
    · exact encRowH_blk h

theorem encHeap_blk : ∀ {sl : List Slot} {b0 : Nat} {x : Val (slotsTy sl)} {o : Option Blk}, o ∈ encHeap sl b0 x → ∃ b, o = some b ∧ b.isTab = false
  | [], _, _, _, h => by cases h
  | .dead :: r, b, x, o, h => encHeap_blk (sl := r) (b0 := b) h
  | .data t :: r, b, x, o, h => encHeap_blk (sl := r) (b0 := b) (x := x.2) h
  | .bor t k q :: r, b, x, o, h => encHeap_blk (sl := r) (b0 := b) (x := x.2) h
  | .sl t :: r, b, x, o, h => by
    simp only [encHeap, List.mem_cons] at h
    rcases h with rfl | h
    · exact ⟨_, rfl, rfl⟩
    · exact encHeap_blk h
  | .cut t :: r, b, x, o, h => by
    simp only [encHeap, List.mem_cons] at h
    rcases h with rfl | h
    · exact ⟨_, rfl, rfl⟩
    · exact encHeap_blk h
  | .box cs :: r, b, x, o, h => by
    simp only [encHeap, List.mem_cons, List.mem_append] at h
    rcases h with rfl | h | h
    · exact ⟨_, rfl, rfl⟩
    · exact encRowH_blk h
    · exact encHeap_blk h
  | .ag cs :: r, b, x, o, h => by
    simp only [encHeap, List.mem_append] at h
    rcases h with h | h
    · exact encRowH_blk h
    · exact encHeap_blk h

section
variable {P : Program} {E : Env} {S : Ini} {tk : List Nat}

def CallsOK (P : Program) (E : Env) (S : Ini) (cs : List (CallSpec E)) : Prop := ∀ c, c ∈ cs → ∀ x y, c.g x = some y → FCon P E S c.f c.ps c.rs x y

def LoopsOK (P : Program) (E : Env) (S : Ini) (tk : List Nat) (all : List Code) (ls : List (LoopSpec E tk)) : Prop :=
  ∀ l, l ∈ ls → ∀ c, all[l.i]? = some c → ∀ x y, l.g x = some y → LoopCon P E S c (encSlots E tk l.head x) (encEx E tk l.ex y).1 (encEx E tk l.ex y).2

theorem callT_con : ∀ {cs : List (CallSpec E)}, CallsOK P E S cs → CallOK P E S (callT E cs)
  | [], _, f, as, bs, n, r, ts, wr, e => by cases e
  | c :: cs, h, f, as, bs, n, r, ts, wr, e => by
    have tl := callT_con (cs := cs) (fun d hd => h d (by simp [hd]))
    simp only [callT] at e
    split at e
    · rename_i hb
      have hb := Nat.eq_of_beq_eq_true hb
      subst hb
      split at e
      · rename_i x hx
        split at e
        · rename_i t ht
          have ht := tabsB?_eq ht
          subst ht
          cases hg : c.g (t, x) with
          | none => rw [hg] at e; cases e
          | some y =>
            rw [hg] at e
            simp only [Option.map_some, Option.some.injEq, Prod.mk.injEq] at e
            obtain ⟨rfl, rfl, rfl⟩ := e
            refine ⟨_, fun o ho => ?_, fun b hb => ?_, rfl, (h c (by simp) (t, x) y hg n).args hx⟩
            · obtain ⟨b, rfl, _⟩ := encHeap_blk ho
              rfl
            · obtain ⟨b', e, h'⟩ := encHeap_blk hb
              injection e with e
              rw [e]
              exact h'
        · exact tl _ _ _ _ _ _ _ e
      · exact tl _ _ _ _ _ _ _ e
    · exact tl _ _ _ _ _ _ _ e

theorem loopT_con (hK : KindsOK E tk) {all : List Code} {call : CallF} : ∀ {ls : List (LoopSpec E tk)}, LoopsOK P E S tk all ls → ∀ i c s x t, all[i]? = some c → loopT E tk call ls i s = some (x, t) → CodeCon P E S (.loop c) s x t
  | [], _, i, c, s, x, t, _, e => by cases e
  | l :: ls, h, i, c, s, x, t, hc, e => by
    simp only [loopT] at e
    split at e
    · rename_i hb
      have hb := Nat.eq_of_beq_eq_true hb
      subst hb
      split at e
      · rename_i y rs hx
        cases hg : l.g y with
        | none => rw [hg] at e; cases e
        | some z =>
          rw [hg] at e
          simp only [Option.map_some, Option.some.injEq] at e
          have := h l (by simp) c hc y z hg
          rw [e] at this
          exact this.code.ref (decSlots_ref hK hx)
      · cases e
    · exact loopT_con hK (fun d hd => h d (by simp [hd])) i c s x t hc e

theorem leaveK_con (hK : KindsOK E tk) {R : Type} {cs : List (CallSpec E)} : ∀ {ex : List (AX × List Slot)} {x : AX} {s : St} {k : ExTy E tk ex → Option R} {z : R}, leaveK E tk cs ex x s k = some z → ∃ y, k y = some z ∧ (encEx E tk ex y).1 = x ∧ May P E S s (encEx E tk ex y).2
  | [], x, s, k, z, e => by cases e
  | [e0], x, s, k, z, e => by
    simp only [leaveK] at e
    split at e
    · rename_i hd
      have hd := of_decide_eq_true hd
      rw [HM.runK_eq (callKt_eq E cs)] at e
      cases hr : (decSlots E tk e0.2 s).run (callT E cs) s.rd with
      | none => rw [hr] at e; cases e
      | some p =>
        obtain ⟨y, rs⟩ := p
        rw [hr] at e
        exact ⟨y, e, hd, decSlots_ref hK hr⟩
    · cases e
  | e0 :: e' :: r, x, s, k, z, e => by
    simp only [leaveK] at e
    split at e
    · rename_i hd
      have hd := of_decide_eq_true hd
      rw [HM.runK_eq (callKt_eq E cs)] at e
      cases hr : (decSlots E tk e0.2 s).run (callT E cs) s.rd with
      | none => rw [hr] at e; cases e
      | some p =>
        obtain ⟨y, rs⟩ := p
        rw [hr] at e
        exact ⟨Sum.inl y, e, hd, decSlots_ref hK hr⟩
    · obtain ⟨y, h1, h2, h3⟩ := leaveK_con hK (ex := e' :: r) e
      exact ⟨Sum.inr y, h1, h2, h3⟩

end

/-- where ways join (by the number of the sequence), and what is known there -/
abbrev Joins := List (Nat × List (AX × List Slot))

def joinAt : Joins → Nat → Option (List (AX × List Slot))
  | [], _ => none
  | p :: r, m => match Nat.beq p.1 m with
    | true => some p.2
    | false => joinAt r m

def nseqs : Code → Nat
  | .seq a b => nseqs a + nseqs b + 1
  | .cond _ a b => nseqs a + nseqs b
  | .block _ c => nseqs c
  | .scope c => nseqs c
  | _ => 0

def runJK (E : Env) (tk : List Nat) (cs : List (CallSpec E)) (ls : List (LoopSpec E tk)) (js : Joins) : Code → Nat → Nat → St → (R : Type) → (AX → St → Option R) → Option R
  | .skip, _, _, s, _, k => k .normal s
  | .region _ ops draw, _, _, s, _, k => regionK E (callKt E cs) ops.toList draw s k
  | .seq a b, n, m, s, R, k => match joinAt js m with
    | none => runJK E tk cs ls js a n (m + 1) s R fun e s' => match e with
      | .normal => runJK E tk cs ls js b (n + nloops a) (m + 1 + nseqs a) s' R k
      | e => k e s'
    | some ex => (runJK E tk cs ls js a n (m + 1) s (ExTy E tk ex) fun e s' => leaveK E tk cs ex e s' some).bind fun y => exK E tk (fun e s' => match e with
      | .normal => runJK E tk cs ls js b (n + nloops a) (m + 1 + nseqs a) s' R k
      | e => k e s') ex y
  | .cond c a b, n, m, s, R, k => match aeval s.env c with
    | .v (.bool t) => match c with
      | .tmp d => cond t (runJK E tk cs ls js a n m ⟨setB s.env d true, s.heap⟩ R k) (runJK E tk cs ls js b (n + nloops a) (m + nseqs a) ⟨setB s.env d false, s.heap⟩ R k)
      | _ => cond t (runJK E tk cs ls js a n m s R k) (runJK E tk cs ls js b (n + nloops a) (m + nseqs a) s R k)
    | _ => none
  | .block id c, n, m, s, R, k => runJK E tk cs ls js c n m s R fun e s' => match e with
    | .exit id' => if id' = id then k .normal s' else k (.exit id') s'
    | e => k e s'
  | .scope c, n, m, s, R, k => runJK E tk cs ls js c n m s R k
  | .label _, _, _, s, _, k => k .normal s
  | .loop _, n, _, s, _, k => loopKt E tk (callKt E cs) ls n s k
  | .exit id, _, _, s, _, k => k (.exit id) s
  | .ret, _, _, s, _, k => k .ret s
  | _, _, _, _, _, _ => none

def loopBodyJK (E : Env) (tk : List Nat) (cs : List (CallSpec E)) (ls : List (LoopSpec E tk)) (js : Joins) (i : Nat) (body : Code) (head : List Slot) (ex : List (AX × List Slot)) (k : StV E tk head → Option (ExTy E tk ex)) (x : StV E tk head) : Option (ExTy E tk ex) :=
  runJK E tk cs ls js body (i + 1) 0 (encSlots E tk head x) (ExTy E tk ex) fun e s => match e with
    | .normal => (decSlots E tk head s).runK (callKt E cs) s.rd [] fun y _ => k y
    | e => leaveK E tk cs ex e s some

/-- what comes at a function's end -/
def funEnd (E : Env) (tk : List Nat) (cs : List (CallSpec E)) (fi : FnI) (rs : List Slot) (e : AX) (s : St) : Option (StV E tk rs) := match e with
  | .exit _ => none
  | _ => (finA E tk fi rs s).runK (callKt E cs) s.rd [] fun y _ => some y

def funJKA (E : Env) (tk : List Nat) (cs : List (CallSpec E)) (ls : List (LoopSpec E tk)) (js : Joins) (fi : FnI) (args : List AV) (bs : List Blk) (rs : List Slot) : Option (StV E tk rs) :=
  runJK E tk cs ls js fi.body 0 0 (entryT E tk fi args bs) (StV E tk rs) (funEnd E tk cs fi rs)

def funJK (E : Env) (tk : List Nat) (cs : List (CallSpec E)) (ls : List (LoopSpec E tk)) (js : Joins) (fi : FnI) (ps : List Ty) (rs : List Slot) (x : Val (tabsTy E.kinds tk) × Val (rowTy ps)) : Option (StV E tk rs) := funJKA E tk cs ls js fi (encL ps x.2) (encTabs E.kinds tk x.1) rs

section
variable {P : Program} {E : Env} {S : Ini} {tk : List Nat}

theorem nloops_length : ∀ c : Code, (loopsOf c).length = nloops c := by
  intro c
  induction c with
  | seq a b iha ihb => simp [loopsOf, nloops, iha, ihb]
  | cond _ a b iha ihb => simp [loopsOf, nloops, iha, ihb]
  | block _ c ih => simpa [loopsOf, nloops] using ih
  | loop c ih => simp [loopsOf, nloops, ih]
  | scope c ih => simpa [loopsOf, nloops] using ih
  | _ => rfl

theorem CodeCon.seq {a b : Code} {s t u : St} {x : AX} (h : CodeCon P E S a s .normal t) (h' : CodeCon P E S b t x u) : CodeCon P E S (.seq a b) s x u := by
  intro w0 Rt B Ds I0 I L q w hW hs Q hQ
  refine wp_seq (h w0 Rt B Ds I0 I L q w hW hs _ fun I' L' a' w' hs' => ?_)
  exact h' w0 Rt B Ds I0 I' L' a' w' hW hs' Q hQ

theorem CodeCon.seq_out {a b : Code} {s t : St} {x : AX} (hx : x ≠ .normal) (h : CodeCon P E S a s x t) : CodeCon P E S (.seq a b) s x t := by
  intro w0 Rt B Ds I0 I L q w hW hs Q hQ
  refine wp_seq (h w0 Rt B Ds I0 I L q w hW hs _ fun I' L' a' w' hs' => ?_)
  have := hQ I' L' a' w' hs'
  cases x with
  | normal => exact absurd rfl hx
  | exit id => exact this
  | ret => exact this

/-- CODE, with joins -/
theorem runJK_sound (hE : EnvOK P E) (hm : P.follows .mixedOrders = true) (hK : KindsOK E tk) {cs : List (CallSpec E)} (hcs : CallsOK P E S cs) {all : List Code} {ls : List (LoopSpec E tk)} (hls : LoopsOK P E S tk all ls) {js : Joins} :
    ∀ (c : Code) (n m : Nat) (s : St) (R : Type) (k : AX → St → Option R) (z : R), codeOK c = true → (∀ i d, (loopsOf c)[i]? = some d → all[n + i]? = some d) → runJK E tk cs ls js c n m s R k = some z → ∃ x t, CodeCon P E S c s x t ∧ k x t = some z := by
  intro c
  induction c with
  | skip =>
    intro n m s R k z _ _ e
    exact ⟨.normal, s, fun w0 Rt B Ds I0 I L a w hW hs Q hQ => wp_skip (hQ I L a w hs), e⟩
  | region id ops draw =>
    intro n m s R k z hok _ e
    simp only [runJK] at e
    rw [regionK_eq (callKt_eq E cs)] at e
    cases hr : regionA E (callT E cs) ops.toList draw s with
    | none => rw [hr] at e; cases e
    | some p =>
      obtain ⟨x, t⟩ := p
      rw [hr] at e
      exact ⟨x, t, region_sound hE hm (callT_con hcs) hok hr, e⟩
  | seq c d ihc ihd =>
    intro n m s R k z hok hall e
    simp only [codeOK, Bool.and_eq_true] at hok
    have hc : ∀ i d', (loopsOf c)[i]? = some d' → all[n + i]? = some d' := fun i d' h => hall i d' (by
      simp only [loopsOf]
      rw [List.getElem?_append_left (List.getElem?_eq_some_iff.1 h).1]
      exact h)
    have hd : ∀ i d', (loopsOf d)[i]? = some d' → all[n + nloops c + i]? = some d' := fun i d' h => by
      have := hall (nloops c + i) d' (by
        simp only [loopsOf]
        rw [List.getElem?_append_right (by rw [nloops_length]; omega), nloops_length, Nat.add_sub_cancel_left]
        exact h)
      rw [Nat.add_assoc]
      exact this
    have fin : ∀ x t, CodeCon P E S c s x t → (match x with
        | .normal => runJK E tk cs ls js d (n + nloops c) (m + 1 + nseqs c) t R k
        | e => k e t) = some z → ∃ x t, CodeCon P E S (.seq c d) s x t ∧ k x t = some z := by
      intro x t h h'
      cases x with
      | normal =>
        obtain ⟨x', t', h1, h2⟩ := ihd _ _ t R k z hok.2 hd h'
        exact ⟨x', t', h.seq h1, h2⟩
      | exit id => exact ⟨.exit id, t, h.seq_out (by simp), h'⟩
      | ret => exact ⟨.ret, t, h.seq_out (by simp), h'⟩
    simp only [runJK] at e
    cases hj : joinAt js m with
    | none =>
      rw [hj] at e
      simp only at e
      obtain ⟨x, t, h, h'⟩ := ihc _ _ s R _ z hok.1 hc e
      exact fin x t h h'
    | some ex =>
      rw [hj] at e
      simp only at e
      cases hr : runJK E tk cs ls js c n (m + 1) s (ExTy E tk ex) (fun e s' => leaveK E tk cs ex e s' some) with
      | none => rw [hr] at e; cases e
      | some y =>
        rw [hr] at e
        simp only [Option.bind_some] at e
        obtain ⟨x, t, h, h'⟩ := ihc _ _ s _ _ y hok.1 hc hr
        obtain ⟨y', g0, g1, g2⟩ := leaveK_con hK (P := P) (S := S) h'
        injection g0 with g0
        subst g0
        rw [exK_eq] at e
        refine fin _ _ ?_ e
        rw [g1]
        exact h.post g2
  | cond q c d ihc ihd =>
    intro n m s R k z hok hall e
    simp only [codeOK, Bool.and_eq_true] at hok
    simp only [runJK] at e
    have hc : ∀ i d', (loopsOf c)[i]? = some d' → all[n + i]? = some d' := fun i d' h => hall i d' (by
      simp only [loopsOf]
      rw [List.getElem?_append_left (List.getElem?_eq_some_iff.1 h).1]
      exact h)
    have hd : ∀ i d', (loopsOf d)[i]? = some d' → all[n + nloops c + i]? = some d' := fun i d' h => by
      have := hall (nloops c + i) d' (by
        simp only [loopsOf]
        rw [List.getElem?_append_right (by rw [nloops_length]; omega), nloops_length, Nat.add_sub_cancel_left]
        exact h)
      rw [Nat.add_assoc]
      exact this
    split at e
    · rename_i tb hav
      have fin : cond tb (runJK E tk cs ls js c n m s R k) (runJK E tk cs ls js d (n + nloops c) (m + nseqs c) s R k) = some z → ∃ x t, CodeCon P E S (.cond q c d) s x t ∧ k x t = some z := by
        intro e
        cases tb with
        | true =>
          simp only [cond_true] at e
          obtain ⟨x, t, h, h'⟩ := ihc _ _ s R k z hok.1 hc e
          refine ⟨x, t, fun w0 Rt B Ds I0 I L a w hW hs Q hQ => ?_, h'⟩
          have hq := hs.eval q
          rw [hav] at hq
          simp only [Rep] at hq
          exact wp_cond_true hq (h w0 Rt B Ds I0 I L a w hW hs Q hQ)
        | false =>
          simp only [cond_false] at e
          obtain ⟨x, t, h, h'⟩ := ihd _ _ s R k z hok.2 hd e
          refine ⟨x, t, fun w0 Rt B Ds I0 I L a w hW hs Q hQ => ?_, h'⟩
          have hq := hs.eval q
          rw [hav] at hq
          simp only [Rep] at hq
          exact wp_cond_false hq (h w0 Rt B Ds I0 I L a w hW hs Q hQ)
      split at e
      · rename_i d
        have hq' : s.env.getD d .top = .v (.bool tb) := hav
        refine fin ?_
        cases tb
        · simp only [cond_false] at e ⊢; rw [setB_self hq'] at e; exact e
        · simp only [cond_true] at e ⊢; rw [setB_self hq'] at e; exact e
      · exact fin e
    · cases e
  | block id c ih =>
    intro n m s R k z hok hall e
    simp only [codeOK] at hok
    simp only [runJK] at e
    obtain ⟨x, t, h, h'⟩ := ih _ _ s R _ z hok hall e
    cases x with
    | normal =>
      refine ⟨.normal, t, fun w0 Rt B Ds I0 I L a w hW hs Q hQ => ?_, h'⟩
      exact wp_block (h w0 Rt B Ds I0 I L a w hW hs _ fun I' L' a' w' hs' => hQ I' L' a' w' hs')
    | exit id' =>
      simp only at h'
      by_cases hi : id' = id
      · rw [if_pos hi] at h'
        refine ⟨.normal, t, fun w0 Rt B Ds I0 I L a w hW hs Q hQ => ?_, h'⟩
        refine wp_block (h w0 Rt B Ds I0 I L a w hW hs _ fun I' L' a' w' hs' => ?_)
        simp only [AX.toExit, Exit.inBlock]
        rw [if_pos hi]
        exact hQ I' L' a' w' hs'
      · rw [if_neg hi] at h'
        refine ⟨.exit id', t, fun w0 Rt B Ds I0 I L a w hW hs Q hQ => ?_, h'⟩
        refine wp_block (h w0 Rt B Ds I0 I L a w hW hs _ fun I' L' a' w' hs' => ?_)
        simp only [AX.toExit, Exit.inBlock]
        rw [if_neg hi]
        exact hQ I' L' a' w' hs'
    | ret =>
      refine ⟨.ret, t, fun w0 Rt B Ds I0 I L a w hW hs Q hQ => ?_, h'⟩
      exact wp_block (h w0 Rt B Ds I0 I L a w hW hs _ fun I' L' a' w' hs' => hQ I' L' a' w' hs')
  | scope c ih =>
    intro n m s R k z hok hall e
    simp only [codeOK] at hok
    simp only [runJK] at e
    obtain ⟨x, t, h, h'⟩ := ih _ _ s R k z hok hall e
    refine ⟨x, t, fun w0 Rt B Ds I0 I L a w hW hs Q hQ => ?_, h'⟩
    refine wp_scope_straight (h w0 Rt B Ds I0 I L a w hW hs _ fun I' L' a' w' hs' => ?_)
    have := hQ I' L' a' w' hs'
    cases x <;> exact this
  | label l =>
    intro n m s R k z _ _ e
    exact ⟨.normal, s, fun w0 Rt B Ds I0 I L a w hW hs Q hQ => wp_label (hQ I L a w hs), e⟩
  | loop c _ =>
    intro n m s R k z _ hall e
    simp only [runJK] at e
    rw [loopKt_eq E tk cs] at e
    cases hr : loopT E tk (callT E cs) ls n s with
    | none => rw [hr] at e; cases e
    | some p =>
      obtain ⟨x, t⟩ := p
      rw [hr] at e
      exact ⟨x, t, loopT_con hK (call := callT E cs) hls n c s x t (by have := hall 0 c rfl; simpa using this) hr, e⟩
  | exit id =>
    intro n m s R k z _ _ e
    exact ⟨.exit id, s, fun w0 Rt B Ds I0 I L a w hW hs Q hQ => wp_exit (hQ I L a w hs), e⟩
  | ret =>
    intro n m s R k z _ _ e
    exact ⟨.ret, s, fun w0 Rt B Ds I0 I L a w hW hs Q hQ => wp_ret (hQ I L a w hs), e⟩
  | _ => intro n m s R k z _ _ e; simp only [runJK] at e; cases e

/-- A LOOP -/
theorem loop_specJ (hE : EnvOK P E) (hm : P.follows .mixedOrders = true) (hK : KindsOK E tk) {cs : List (CallSpec E)} (hcs : CallsOK P E S cs) {all : List Code} {ls : List (LoopSpec E tk)} (hls : LoopsOK P E S tk all ls) {js : Joins} {i : Nat} {body : Code} {head : List Slot} {ex : List (AX × List Slot)}
    (hok : codeOK body = true) (hin : ∀ j d, (loopsOf body)[j]? = some d → all[i + 1 + j]? = some d) (g : Nat → StV E tk head → Option (ExTy E tk ex)) (h0 : ∀ x, g 0 x = none) (hs : ∀ n x, g (n + 1) x = loopBodyJK E tk cs ls js i body head ex (g n) x) :
    ∀ n x y, g n x = some y → LoopCon P E S body (encSlots E tk head x) (encEx E tk ex y).1 (encEx E tk ex y).2 := by
  intro n
  induction n with
  | zero => intro x y e; rw [h0] at e; cases e
  | succ n ih =>
    intro x y e
    rw [hs] at e
    unfold loopBodyJK at e
    obtain ⟨z, s, hcode, e⟩ := runJK_sound hE hm hK hcs hls body (i + 1) 0 _ _ _ y hok hin e
    have hleave : ∀ z', z' ≠ AX.normal → z = z' → leaveK E tk cs ex z' s some = some y → LoopCon P E S body (encSlots E tk head x) (encEx E tk ex y).1 (encEx E tk ex y).2 := by
      intro z' hne hz hl
      obtain ⟨y', h0, h1, h2⟩ := leaveK_con hK (P := P) (S := S) hl
      injection h0 with h0
      subst h0
      rw [h1, ← hz]
      exact .leave (hcode.post h2) (by rw [hz]; exact hne)
    cases z with
    | normal =>
      simp only at e
      rw [HM.runK_eq (callKt_eq E cs)] at e
      cases hd : (decSlots E tk head s).run (callT E cs) s.rd with
      | none => rw [hd] at e; cases e
      | some q =>
        obtain ⟨x', rs⟩ := q
        rw [hd] at e
        simp only [Option.bind_some] at e
        exact .again (hcode.post (decSlots_ref hK hd)) (ih x' y e)
    | exit id => exact hleave (.exit id) (by simp) rfl e
    | ret => exact hleave .ret (by simp) rfl e

/-- A FUNCTION, by what its code comes to -/
theorem fn_soundC (hE : EnvOK P E) {call : CallF} {f : FuncId} {fi : FnI} (hf : E.fn f = some fi)
    {args : List AV} {bs : List Blk} {x : AX} {t : St} (hx : ∀ id, x ≠ .exit id)
    (hcode : CodeCon P E S fi.body (entryT E (E.ks f) fi args bs) x t) {rs : List Slot} {y : StV E (E.ks f) rs} {us : List Nat} (e' : (finA E (E.ks f) fi rs t).run call t.rd = some (y, us)) :
    ∀ b0, Con P E S f args bs b0 (packA (encEnv rs b0 y.2)) (encTabs E.kinds (E.ks f) y.1) (encHeap rs b0 y.2) := by
  intro b0 w I L Rt B vs hW hb0 hs
  obtain ⟨fn, hfn, hbody, hnt, hres, _⟩ := hE.fn f fi hf
  have hlen : args.length = vs.size := by
    have := hs.env.length
    simpa using this.symm
  have hs0 : Sim ⟨P, E, S, w, I, Rt, B, []⟩ I L (entryT E (E.ks f) fi args bs) { tmps := vs ++ Array.replicate (fn.ntmps - vs.size) undef, defers := [] } w := by
    refine ⟨?_, rfl, hs.blk, hs.dom, hs.own, hs.inj, hs.imm, hs.i0, hs.iN, hs.same, hs.fix, hs.bx, hs.grow, hs.io⟩
    simp only [entryT, Array.toList_append, Array.toList_replicate]
    refine hs.env.append ?_
    rw [hlen, hnt]
    generalize fi.ntmps - vs.size = n
    induction n with
    | zero => simp [RepL]
    | succ n ih => simp only [List.replicate_succ, RepL]; exact ⟨_, _, rfl, by simp [Rep], ih⟩
  refine calls_of_wp hfn hbody (hcode w Rt B [] I I L _ w hW hs0 _ fun I' L' a' w' h' => ?_)
  unfold finA at e'
  obtain ⟨l, q1, q2, hl, eq, rfl⟩ := HM.run_bind e'
  obtain ⟨us, hrun, hrep⟩ := resA_sound h' hE hW hl
  have h2 : Sim ⟨P, E, S, w, I, Rt, B, []⟩ I' L' ⟨l, t.heap⟩ { tmps := us.toArray, defers := [] } w' :=
    ⟨hrep, rfl, h'.blk, h'.dom, h'.own, h'.inj, h'.imm, h'.i0, h'.iN, h'.same, h'.fix, h'.bx, h'.grow, h'.io⟩
  obtain ⟨hnd, hlt⟩ := hE.ks f
  obtain ⟨I2, L2, h3⟩ := dec_sim h2 hb0 hnd hlt eq
  have hmap : (fn.results.mapM (resOne a'.tmps)).run P w' = .ok us.toArray w' := by
    have h0 := hrun
    rw [← hres] at h0
    rw [Array.mapM_eq_mapM_toList, Sem.run_map, h0]
    rfl
  have hpost : a'.defers = [] ∧ ∃ v, (results fn a'.tmps).run P w' = .ok v w' ∧ ∃ I' L', Sim ⟨P, E, S, w, I, Rt, B, []⟩ I' L' ⟨[packA (encEnv rs b0 y.2)], outH E (E.ks f) (encTabs E.kinds (E.ks f) y.1) b0 (encHeap rs b0 y.2)⟩ { tmps := #[v], defers := [] } w' := by
    refine ⟨h'.defers, if h : us.toArray.size = 1 then us.toArray[0] else .tuple us.toArray, ?_, I2, L2, ?_, rfl, h3.blk, h3.dom, h3.own, h3.inj, h3.imm, h3.i0, h3.iN, h3.same, h3.fix, h3.bx, h3.grow, h3.io⟩
    · rw [results_eq]
      simp only [Sem.run_bind, hmap, Result.andThen_ok, Sem.run_pure]
    · have hrep3 := h3.env
      simp only [encAt] at hrep3
      generalize encEnv rs b0 y.2 = l' at hrep3
      simp only [RepL]
      refine ⟨_, [], rfl, ?_, rfl⟩
      cases l' with
      | nil =>
        simp only [RepL] at hrep3
        have hrep3 : us = [] := hrep3
        subst hrep3
        simp [packA, Rep, RepL]
      | cons y tl =>
        cases tl with
        | nil =>
          simp only [RepL] at hrep3
          obtain ⟨u, t0, hu0, hu, rfl⟩ := hrep3
          have hu0 : us = [u] := hu0
          subst hu0
          exact hu
        | cons z tl =>
          have hl2 := hrep3.length
          have : us.toArray.size ≠ 1 := by simp at hl2 ⊢; omega
          simp only [packA, Rep, dif_neg this]
          exact ⟨us.toArray, rfl, hrep3⟩
  cases x with
  | normal => exact hpost
  | ret => exact hpost
  | exit id => exact absurd rfl (hx id)

/-- A FUNCTION -/
theorem fun_specA (hE : EnvOK P E) (hm : P.follows .mixedOrders = true) {cs : List (CallSpec E)} (hcs : CallsOK P E S cs) {f : FuncId} {fi : FnI} (hf : E.fn f = some fi) {ls : List (LoopSpec E (E.ks f))} (hls : LoopsOK P E S (E.ks f) (loopsOf fi.body) ls) {js : Joins}
    (hok : codeOK fi.body = true) {args : List AV} {bs : List Blk} {rs : List Slot} {y : StV E (E.ks f) rs} (e : funJKA E (E.ks f) cs ls js fi args bs rs = some y) :
    ∀ b0, Con P E S f args bs b0 (packA (encEnv rs b0 y.2)) (encTabs E.kinds (E.ks f) y.1) (encHeap rs b0 y.2) := by
  unfold funJKA at e
  obtain ⟨z, s, hcode, e⟩ := runJK_sound hE hm (hE.ks f) hcs hls fi.body 0 0 _ _ _ y hok (fun i d h => by simpa using h) e
  have fin : (∀ id, z ≠ .exit id) → (finA E (E.ks f) fi rs s).runK (callKt E cs) s.rd [] (fun y _ => some y) = some y → ∀ b0, Con P E S f args bs b0 (packA (encEnv rs b0 y.2)) (encTabs E.kinds (E.ks f) y.1) (encHeap rs b0 y.2) := by
    intro hz e
    rw [HM.runK_eq (callKt_eq E cs)] at e
    cases hd : (finA E (E.ks f) fi rs s).run (callT E cs) s.rd with
    | none => rw [hd] at e; cases e
    | some q =>
      obtain ⟨r, l⟩ := q
      rw [hd] at e
      simp only [Option.bind_some, Option.some.injEq] at e
      subst e
      exact fn_soundC hE hf hz hcode hd
  cases z with
  | normal => exact fin (by simp) e
  | ret => exact fin (by simp) e
  | exit id => cases e

theorem fun_specJ (hE : EnvOK P E) (hm : P.follows .mixedOrders = true) {cs : List (CallSpec E)} (hcs : CallsOK P E S cs) {f : FuncId} {fi : FnI} (hf : E.fn f = some fi) {ls : List (LoopSpec E (E.ks f))} (hls : LoopsOK P E S (E.ks f) (loopsOf fi.body) ls) {js : Joins}
    (hok : codeOK fi.body = true) {ps : List Ty} {rs : List Slot} {x : Val (tabsTy E.kinds (E.ks f)) × Val (rowTy ps)} {y : StV E (E.ks f) rs} (e : funJK E (E.ks f) cs ls js fi ps rs x = some y) : FCon P E S f ps rs x y :=
  fun_specA hE hm hcs hf hls hok e

end
end Go.Eng

/-
  The abstract machine, part 25: the world at a call's beginning; what a row asks at its end.
-/
namespace Go.Eng

/-- an error as errors.New makes it -/
def errD (nm : String) (text : List UInt8) : DataW Unit := .iface nm (.ptr (.agg [.lit (.string text)]))

def laidOf (nm : String) (ns : List (String × List UInt8 × Nat)) : List (String × DataW Unit) := ns.map fun x => (x.1, errD nm x.2.1)

/-- where the error lies that a variable holds -/
def errAt (w : World) (g : Nat) : Addr := match w.heap[g]? with
  | some (.cells cs _ _) => match cs.toList with
    | [.iface _ (.pointer (some a))] => a
    | _ => ⟨0, 0, none⟩
  | _ => ⟨0, 0, none⟩

/-- what a program is to have for its errors -/
structure ErrsOK (P : Program) (nm : String) (ti tp te ts : TypeId) : Prop where
  hi : ∃ ms, P.underlying ti = some (.interface ms)
  hrow : ∀ u, P.typeName? 3 u = some nm → u = tp
  hp : P.underlying tp = some (.pointer te)
  he : ∃ f : Field, P.underlying te = some (.struct #[f]) ∧ f.type = ts ∧ f.offset = 0
  hs : P.underlying ts = some .string
  hc : P.cellsOf te = 1
  hcs : P.cellsOf ts = 1
  info : ∃ i j, P.info? tp = some i ∧ i.comparable = true ∧ P.info? te = some j ∧ j.size ≠ 0

section
variable {P : Program} {nm : String} {ti tp te ts : TypeId}

theorem laid_errs (hO : ErrsOK P nm ti tp te ts) {W : World} : ∀ {ns : List (String × List UInt8 × Nat)} {ps : List MemPlace}, DataW.LaidVars P W (laidOf nm ns) ps →
    (∀ x, x ∈ ns → P.globalNamed x.1 = some x.2.2 ∧ (P.globals[x.2.2]?).map (·.type) = some ti) →
    (∀ b off, MemPlace.cell b off ∈ ps → (∃ c t, W.heap[b]? = some (.cells c t (0, 0))) ∧ ∀ u v, W.cell? ⟨b, off, none⟩ = some (.iface u v) → Value.okWide P W .any 0 u v) → ps.Nodup →
    (∀ x, x ∈ ns → (∃ T fz, W.heap[x.2.2]? = some (.cells #[.iface tp (.pointer (some (errAt W x.2.2)))] T fz)) ∧ MemPlace.cell (errAt W x.2.2).block (errAt W x.2.2).off ∈ ps) ∧
    (∀ x y, x ∈ ns → y ∈ ns → x.2.2 ≠ y.2.2 → errAt W x.2.2 ≠ errAt W y.2.2)
  | [], ps, _, _, _, _ => ⟨fun x hx => by simp at hx, fun x y hx => by simp at hx⟩
  | z :: ns, ps, h, hg, hrows, hnd => by
    obtain ⟨g0, t0, cs0, f0, p0, q0, hg0, ht0, hv0, hd0, hrest, e0⟩ := h
    obtain ⟨hz, hzt⟩ := hg z (by simp)
    have hg0 : P.globalNamed z.1 = some g0 := hg0
    obtain rfl := Option.some.inj (hz.symm.trans hg0)
    obtain rfl := Option.some.inj (hzt.symm.trans ht0)
    subst e0
    obtain ⟨l0⟩ := cs0
    have ok0 : ∀ u v, l0 = [.iface u v] → Value.okWide P W .any 0 u v := fun u v e => by
      subst e
      exact (hrows z.2.2 0 (by simp [MemPlace.row])).2 u v (by simpa using World.var?_cell hz hv0 0)
    obtain ⟨ms, hi⟩ := hO.hi
    obtain ⟨f, he, hft, hfo⟩ := hO.he
    obtain ⟨a0, s0, rfl, hc0, hs0, hz0, rfl⟩ := errorString_of_trod hi hO.hrow hO.hp he hft hfo hO.hs hO.hc hO.hcs hd0 ok0
    have hnd' := List.nodup_append.1 hnd
    obtain ⟨h1, h2⟩ := laid_errs hO (ns := ns) hrest (fun x hx => hg x (by simp [hx])) (fun b off hb => hrows b off (List.mem_append_right _ hb)) hnd'.2.1
    obtain ⟨T0, fz0, hh0⟩ : ∃ T fz, W.heap[z.2.2]? = some (.cells #[.iface tp (.pointer (some a0))] T fz) := by
      unfold World.var? at hv0
      rw [hz] at hv0
      simp only [Option.bind_some] at hv0
      split at hv0
      · rename_i cs T fz hh
        injection hv0 with hv0
        subst hv0
        exact ⟨T, fz, hh⟩
      · cases hv0
    have ha : errAt W z.2.2 = a0 := by simp [errAt, hh0]
    have hmem : MemPlace.cell a0.block a0.off ∈ MemPlace.row ⟨z.2.2, 0, none⟩ (#[Value.iface tp (.pointer (some a0))]).size ++ MemPlace.row a0 1 := List.mem_append_right _ (by simp [MemPlace.row])
    have hne : ∀ y, y ∈ ns → errAt W z.2.2 ≠ errAt W y.2.2 := by
      intro y hy e
      obtain ⟨_, hm⟩ := h1 y hy
      rw [← e, ha] at hm
      exact hnd'.2.2 _ hmem _ hm rfl
    refine ⟨fun x hx => ?_, fun x y hx hy hxy => ?_⟩
    · rcases List.mem_cons.1 hx with rfl | hx
      · rw [ha]
        exact ⟨⟨T0, fz0, hh0⟩, List.mem_append_left _ hmem⟩
      · obtain ⟨g1, g2⟩ := h1 x hx
        exact ⟨g1, List.mem_append_right _ g2⟩
    · rcases List.mem_cons.1 hx with hx | hx <;> rcases List.mem_cons.1 hy with hy | hy
      · rw [hx, hy] at hxy; exact absurd rfl hxy
      · rw [hx]; exact hne y hy
      · rw [hy]; exact fun e => hne x hx e.symm
      · exact h2 x y hx hy hxy

/-- what is so from the beginning -/
def iniOf (W : World) : Ini := ⟨errAt W, fun b => b < W.heap.size⟩

/-- THE WORLD AT A CALL's BEGINNING is as the machine takes it to be. -/
theorem laid_wok (hO : ErrsOK P nm ti tp te ts) {E : Env} {ns : List (String × List UInt8 × Nat)} (hg : ∀ x, x ∈ ns → P.globalNamed x.1 = some x.2.2 ∧ (P.globals[x.2.2]?).map (·.type) = some ti)
    (hglob : ∀ g row, E.glob g = some row → row = [.er (.s g)] ∧ ∃ x, x ∈ ns ∧ x.2.2 = g) (ht : E.errT = tp) (hne : E.atT ≠ E.errT) {W : World} (h : laidMet P (laidOf nm ns) W) : WOK P E (iniOf W) W := by
  obtain ⟨ps, hl, hnd, hrows⟩ := h
  obtain ⟨h1, h2⟩ := laid_errs hO hl hg hrows hnd
  refine ⟨fun g row hr => ?_, fun w' hw t ms hms g g' hg1 hg2 => ?_, hne⟩
  · obtain ⟨rfl, x, hx, rfl⟩ := hglob g row hr
    obtain ⟨⟨T, fz, hh⟩, _⟩ := h1 x hx
    refine ⟨lt_of_heap hh, _, T, fz, hh, ?_⟩
    simp only [RepL, Rep, RepE]
    exact ⟨_, [], rfl, ⟨hr, by show _ = Value.iface E.errT _; rw [ht]; rfl⟩, rfl⟩
  · obtain ⟨_, x, hx, rfl⟩ := hglob g _ hg1
    obtain ⟨_, y, hy, rfl⟩ := hglob g' _ hg2
    obtain ⟨i, j, hinfo, hcomp, hte, hsz⟩ := hO.info
    rw [ht]
    by_cases e : x.2.2 = y.2.2
    · rw [e, decide_eq_true rfl]
      exact run_equalIn_iface_ptr_same w' 9998 _ hms hO.hp hinfo hcomp hte
    · rw [decide_eq_false e]
      obtain ⟨c1, T1, hc1⟩ := (hrows _ _ (h1 x hx).2).1
      obtain ⟨c2, T2, hc2⟩ := (hrows _ _ (h1 y hy).2).1
      refine run_equalIn_iface_ptr_other (ca := c1) (cb := c2) (ta := T1) (tb := T2) w' 9998 hms hO.hp hinfo hcomp hte hsz (h2 x y hx hy e) ?_ ?_
      · exact (hw _ (lt_of_heap hc1)).trans hc1
      · exact (hw _ (lt_of_heap hc2)).trans hc2

end

/-- tables of nothing -/
def noT (ks : List (List Cell)) : (tk : List Nat) → Val (tabsTy ks tk)
  | [] => ()
  | k :: r => (([] : List (Val (rowsTy (ks.getD k [])))), noT ks r)

theorem entryH_none {E : Env} {tk : List Nat} {k : Nat} {b : Blk} (h : (entryH E tk (encTabs E.kinds tk (noT E.kinds tk)))[k]? = some (some b)) : ∃ cs, b = tab0 cs := by
  have key : ∀ (tk : List Nat) (h0 : List (Option Blk)), (∀ (k : Nat) (b : Blk), h0[k]? = some (some b) → ∃ cs, b = tab0 cs) → ∀ (k : Nat) (b : Blk), (putK h0 tk (encTabs E.kinds tk (noT E.kinds tk)))[k]? = some (some b) → ∃ cs, b = tab0 cs := by
    intro tk
    induction tk with
    | nil => intro h0 hh k b hb; exact hh k b (by simpa only [encTabs, putK] using hb)
    | cons k0 r ih =>
      intro h0 hh k b hb
      simp only [encTabs, noT, putK] at hb
      refine ih _ (fun k b hb => ?_) k b hb
      rw [List.getElem?_set] at hb
      split at hb
      · split at hb
        · simp only [Option.some.injEq] at hb
          exact ⟨_, hb.symm⟩
        · cases hb
      · exact hh k b hb
  refine key tk _ (fun k b hb => ?_) k b h
  rw [List.getElem?_map] at hb
  obtain ⟨cs, _, e⟩ := Option.map_eq_some_iff.1 hb
  injection e with e
  exact ⟨cs, e.symm⟩

/-- A LAW's CALL -/
theorem law_call {P : Program} {E : Env} {W : World} {f : FuncId} {as : List AV} {vs : Array Value} (hW : WOK P E (iniOf W) W) (hargs : RepL (rcW (statOf E (iniOf W)) (fun b => b < W.heap.size) noL W) noL as vs.toList)
    {b : Bool} {ts : List Blk} (hC : Con P E (iniOf W) f as (encTabs E.kinds (E.ks f) (noT E.kinds (E.ks f))) E.kinds.length (.v (.bool b)) ts []) : Calls P f vs W fun e W' => e = .returned (.bool b) ∧ RowKit.Below W.heap.size W W' := by
  obtain ⟨L, hL⟩ : ∃ L : Ref → Option Pl, L = fun | .l id => if id < E.kinds.length then some ⟨0, 0, 0, 0, 0, true⟩ else none | .o _ _ _ => none := ⟨_, rfl⟩
  have hLl : ∀ id, id < E.kinds.length → L (.l id) = some ⟨0, 0, 0, 0, 0, true⟩ := fun id h => by rw [hL]; exact if_pos h
  have hLn : ∀ id p, L (.l id) = some p → id < E.kinds.length ∧ p.virt = true := fun id p h => by
    rw [hL] at h
    simp only at h
    split at h
    · rename_i hlt
      injection h with h
      subst h
      exact ⟨hlt, rfl⟩
    · cases h
  have hLo : ∀ k i q, L (.o k i q) = none := fun k i q => by rw [hL]
  have hlen : ∀ id b, (entryH E (E.ks f) (encTabs E.kinds (E.ks f) (noT E.kinds (E.ks f))))[id]? = some (some b) → id < E.kinds.length := fun id b h => by
    have := (List.getElem?_eq_some_iff.1 h).1
    rw [entryH_length] at this
    exact this
  have hs : Sim ⟨P, E, iniOf W, W, (fun b => b < W.heap.size), (fun _ => False), fun _ _ => none, []⟩ (fun b => b < W.heap.size) L ⟨as, entryH E (E.ks f) (encTabs E.kinds (E.ks f) (noT E.kinds (E.ks f)))⟩ { tmps := vs, defers := [] } W := by
    refine ⟨?_, rfl, fun r x hx => ?_, fun r p hp => ?_, fun r p hp hv => ?_, fun r r' p p' hp hp' hv hv' hb => ?_, fun b hb => hb, fun b hb => hb, fun b hb => .inl hb, fun b _ _ => rfl, fun b hb => ⟨hb, fun h => h⟩, (fun k i p hp => by cases hp), Nat.le_refl _, IO.refl W⟩
    · have hr : RLe (rcW (statOf E (iniOf W)) (fun b => b < W.heap.size) noL W) (rcW (statOf E (iniOf W)) (fun b => b < W.heap.size) L W) := ⟨fun _ h => h, fun _ _ _ => rfl, rfl, (fun k i b hb => by simp [rcW, hOf] at hb)⟩
      show RepL (rcW (statOf E (iniOf W)) (fun b => b < W.heap.size) L W) L as vs.toList
      exact hargs.mono hr (fun _ _ e => by cases e)
    · cases r with
      | l id =>
        have hx' := rdv_l.1 hx
        obtain ⟨cs, rfl⟩ := entryH_none hx'
        exact ⟨_, hLl id (hlen id _ hx'), ⟨rfl, rfl⟩, fun _ hv => by cases hv⟩
      | o k i q =>
        exfalso
        simp only [rdv] at hx
        split at hx
        · rename_i b hb
          obtain ⟨cs, rfl⟩ := entryH_none hb
          simp [tab0] at hx
        · cases hx
    · cases r with
      | l id =>
        obtain ⟨hlt, _⟩ := hLn id p hp
        have hl2 : id < (entryH E (E.ks f) (encTabs E.kinds (E.ks f) (noT E.kinds (E.ks f)))).length := by rw [entryH_length]; exact hlt
        have key : ∀ (tk : List Nat) (bs : List Blk) (h0 : List (Option Blk)), (∀ o, o ∈ h0 → o.isSome = true) → ∀ o, o ∈ putK h0 tk bs → o.isSome = true := by
          intro tk
          induction tk with
          | nil => intro bs h0 hh o ho; exact hh o (by simpa only [putK] using ho)
          | cons k0 r ih =>
            intro bs h0 hh o ho
            cases bs with
            | nil => exact hh o (by simpa only [putK] using ho)
            | cons b0 bs =>
              simp only [putK] at ho
              refine ih bs _ (fun o ho => ?_) o ho
              rcases List.mem_or_eq_of_mem_set ho with ho | rfl
              · exact hh o ho
              · rfl
        have := key (E.ks f) (encTabs E.kinds (E.ks f) (noT E.kinds (E.ks f))) (E.kinds.map fun cs => some (tab0 cs)) (fun o ho => by
          obtain ⟨cs, _, rfl⟩ := List.mem_map.1 ho
          rfl) _ (List.getElem_mem hl2)
        obtain ⟨b, hb⟩ := Option.isSome_iff_exists.1 this
        exact ⟨b, rdv_l.2 (by rw [List.getElem?_eq_getElem hl2]; exact congrArg some hb)⟩
      | o k i q => rw [hLo] at hp; cases hp
    · cases r with
      | l id => rw [(hLn id p hp).2] at hv; cases hv
      | o k i q => rw [hLo] at hp; cases hp
    · cases r with
      | l id => rw [(hLn id p hp).2] at hv; cases hv
      | o k i q => rw [hLo] at hp; cases hp
  refine (hC W _ L _ _ vs hW (Nat.le_refl _) hs).mono fun e W' he => ?_
  cases e with
  | returned v =>
    obtain ⟨I', L', h'⟩ := he
    have hr := h'.env
    simp only [RepL, Rep] at hr
    obtain ⟨y, t, e1, rfl, rfl⟩ := hr
    have e1 : v = .bool b := by simpa using e1
    subst e1
    exact ⟨rfl, h'.io.1, h'.io.2.1, h'.io.2.2, h'.grow, fun b hb => h'.same b hb fun h => h⟩
  | panicked ch => exact he.elim
  | outgrown => exact he.elim

/-- all arguments read as they did -/
theorem trodAll_below {H : Type} {enc : TypeId × Value → H} {P : Program} (hl : laidOutB P = true) {W W' : World} (hb : RowKit.Below W.heap.size W W') : ∀ {ts : List TypeId} {vs : List Value} {ds : List (DataW H)} {ps : List MemPlace},
    (∀ t, t ∈ ts → P.readableRec t = true ∧ t < P.types.size) → (∀ x, x ∈ ps → x.block < W.heap.size) → DataW.TrodAll enc P W 0 (fun _ => true) true ts vs ds ps → DataW.TrodAll enc P W' 0 (fun b => decide (b < W.heap.size)) true ts vs ds ps
  | [], vs, ds, ps, _, _, h => by
    obtain ⟨rfl, rfl, rfl⟩ := ChangeShapes.trodAll_nil h
    rfl
  | t :: ts, vs, ds, ps, ht, hp, h => by
    obtain ⟨v, vs', d, ds', p, q, rfl, rfl, rfl, h1, h2⟩ := ChangeShapes.trodAll_cons h
    exact ⟨p, q, RowKit.Below.trod hl (ht t (by simp)).1 (ht t (by simp)).2 h1 hb (fun x hx => hp x (List.mem_append_left _ hx)), trodAll_below hl hb (fun t h => ht t (by simp [h])) (fun x hx => hp x (List.mem_append_right _ hx)) h2, rfl⟩

end Go.Eng

/-
  The abstract machine, part 26: the tables of a program.
-/
namespace Go.Eng

/-- is it a type's zero? what is left -/
def isZero (N : Names) : Ty → List AV → Option (List AV)
  | .int k, l => match l with
    | .v (.int k' n) :: r => match sameK k k', decide (n = 0) with
      | true, true => some r
      | _, _ => none
    | _ => none
  | .bool, l => match l with
    | .v (.bool false) :: r => some r
    | _ => none
  | .str, l => match l with
    | .v (.string s) :: r => match decide (s = ByteArray.empty) with
      | true => some r
      | false => none
    | _ => none
  | .flt, l => match l with
    | .v (.float .f64 n) :: r => match decide (n = 0) with
      | true => some r
      | false => none
    | _ => none
  | .err, l => match l with
    | .v .nilIface :: r => some r
    | _ => none
  | .unit, l => some l
  | .pair a b, l => match isZero N a l with
    | some r => isZero N b r
    | none => none
  | .st a, l => isZero N a l
  | .sl _, l => match l with
    | .v (.slice none 0 0) :: r => some r
    | _ => none
  | .hd _, l => match l with
    | .v (.pointer none) :: r => some r
    | _ => none
  | .mh _, l => match l with
    | .v (.map none) :: r => some r
    | _ => none
  | .dn, l => match l with
    | .v .nilIface :: r => some r
    | _ => none
  | .dy _ _ q, l => match Nat.beq q.size 1, l with
    | true, .v .nilIface :: r => isZero N q (.v .nilIface :: r)
    | _, _ => none
  | _, _ => none

theorem isZero_sound (N : Names) : ∀ (u : Ty) {l r : List AV}, isZero N u l = some r → decT N u l = some (dfl u, r)
  | .int k, l, r, h => by
    simp only [isZero] at h
    split at h
    · split at h
      · rename_i k' n r' hk hn
        injection h with h
        subst h
        simp only [decT, decI, hk]
        rw [of_decide_eq_true hn]
        rfl
      · cases h
    · cases h
  | .bool, l, r, h => by
    simp only [isZero] at h
    split at h
    · injection h with h
      subst h
      rfl
    · cases h
  | .str, l, r, h => by
    simp only [isZero] at h
    split at h
    · split at h
      · rename_i s r' hs
        injection h with h
        subst h
        rw [of_decide_eq_true hs]
        rfl
      · cases h
    · cases h
  | .flt, l, r, h => by
    simp only [isZero] at h
    split at h
    · split at h
      · rename_i n r' hs
        injection h with h
        subst h
        rw [of_decide_eq_true hs]
        rfl
      · cases h
    · cases h
  | .err, l, r, h => by
    simp only [isZero] at h
    split at h
    · injection h with h
      subst h
      rfl
    · cases h
  | .unit, l, r, h => by
    simp only [isZero, Option.some.injEq] at h
    subst h
    rfl
  | .pair a b, l, r, h => by
    simp only [isZero] at h
    split at h
    · rename_i r' ha
      simp only [decT, isZero_sound N a ha, isZero_sound N b h]
      rfl
    · cases h
  | .st a, l, r, h => by
    simp only [isZero] at h
    simp only [decT]
    exact isZero_sound N a h
  | .sl a, l, r, h => by
    simp only [isZero] at h
    split at h
    · injection h with h
      subst h
      rfl
    · cases h
  | .hd a, l, r, h => by
    simp only [isZero] at h
    split at h
    · injection h with h
      subst h
      rfl
    · cases h
  | .mh a, l, r, h => by
    simp only [isZero] at h
    split at h
    · injection h with h
      subst h
      rfl
    · cases h
  | .dn, l, r, h => by
    simp only [isZero] at h
    split at h
    · injection h with h
      subst h
      rfl
    · cases h
  | .dy u a q, l, r, h => by
    simp only [isZero] at h
    split at h
    · rename_i hq
      have := isZero_sound N q h
      simp only [decT, hq, this, dfl]
    · cases h
  | .nat, l, r, h => by simp [isZero] at h
  | .ref a, l, r, h => by simp [isZero] at h
  | .clo f a, l, r, h => by simp [isZero] at h

def tyFits (P : Program) (N : Names) (u : Option Ty) (d : TypeDesc) (i : TypeInfo) (z : Value) : Bool :=
  (match d with
    | .struct fs => fs.toList.all fun f => (P.info? f.type).isSome
    | _ => true) &&
  (match (descOf P d).isAgg, z with
    | true, .agg _ => true
    | true, _ => false
    | false, z => z.oneCell') &&
  decide (z.cells.size = i.size) && (z.cells.toList.map AV.v).all AV.isCell &&
  (match u with
    | some u => decide (u.size = i.size) && (match isZero N u (z.cells.toList.map AV.v) with
      | some [] => true
      | _ => false)
    | none => true)

/-- a type's row, off the program -/
def mkTy (P : Program) (N : Names) (t : TypeId) (u c : Option Ty) : Option TyI :=
  match P.underlying t, P.info? t with
  | some d, some i => match i.zero with
    | some z => match tyFits P N u d i z && (match c with | some v => decide (v.size = i.size) | none => true) with
      | true => some { desc := descOf P d, size := i.size, bytes := i.bytes, zero := z.cells.toList.map .v, ty := u, cty := c }
      | false => none
    | none => none
  | _, _ => none

theorem mkTy_ok {P : Program} {N : Names} {t : TypeId} {u cc : Option Ty} {ti : TyI} (h : mkTy P N t u cc = some ti) : ∃ d i z, TyOK P N t ti d i z := by
  unfold mkTy at h
  split at h
  · rename_i d i hd hi
    split at h
    · rename_i z hz
      split at h
      · rename_i hf
        injection h with h
        subst h
        simp only [tyFits, Bool.and_eq_true, decide_eq_true_eq] at hf
        obtain ⟨⟨⟨⟨⟨h1, h2⟩, h3⟩, h4⟩, h5⟩, h7⟩ := hf
        refine ⟨d, i, z, hd, rfl, ?_, hi, rfl, rfl, hz, rfl, ?_, ?_, ?_, h4, ?_, ?_⟩
        · intro fs hfs f hfm
          subst hfs
          simp only [List.all_eq_true] at h1
          exact h1 f hfm
        · intro ha
          simp only at ha
          rw [ha] at h2
          split at h2
          all_goals first | contradiction | exact ⟨_, rfl⟩ | (exact absurd h2 (by simp))
        · intro ha
          simp only at ha
          rw [ha] at h2
          split at h2
          all_goals first | contradiction | exact h2
        · simp [h3]
        · intro v hv
          simp only at hv
          subst hv
          simp only [Bool.and_eq_true, decide_eq_true_eq] at h5
          refine ⟨h5.1, ?_⟩
          have h6 := h5.2
          split at h6
          · rename_i hz
            exact isZero_sound N v hz
          · cases h6
        · intro v hv
          simp only at hv
          subst hv
          simpa using h7
      · cases h
    · cases h
  · cases h

def lookT (l : List (TypeId × TyI)) (t : TypeId) : Option TyI :=
  match l with
  | [] => none
  | x :: r => match Nat.beq x.1 t with
    | true => some x.2
    | false => lookT r t

theorem lookT_mem : ∀ {l : List (TypeId × TyI)} {t : TypeId} {ti : TyI}, lookT l t = some ti → (t, ti) ∈ l
  | [], _, _, h => by cases h
  | x :: r, t, ti, h => by
    simp only [lookT] at h
    split at h
    · rename_i hb
      injection h with h
      subst h
      rw [← Nat.eq_of_beq_eq_true hb]
      simp
    · exact List.mem_cons_of_mem _ (lookT_mem h)

/-- a function's row, off the program -/
def mkFn (P : Program) (fs : List FuncId) (f : FuncId) : Option FnI :=
  match fs.any (Nat.beq f) with
  | true => match P.funcs[f]? with
    | some fn => match fn.body with
      | some b => some { body := b, ntmps := fn.ntmps, results := fn.results.toList }
      | none => none
    | none => none
  | false => none

def lookG (l : List Nat) (g : Nat) : Option (List AV) := match l.any (Nat.beq g) with
  | true => some [.er (.s g)]
  | false => none

/-- the tables of a program -/
def mkEnv (P : Program) (N : Names) (tys : List (TypeId × TyI)) (fs : List FuncId) (gs : List Nat) : Env :=
  { toNames := N, ty := lookT tys, fn := mkFn P fs, glob := lookG gs }

theorem mkEnv_ok {P : Program} {N : Names} {tys : List (TypeId × TyI)} {fs : List FuncId} {gs : List Nat} (ht : ∀ x, x ∈ tys → mkTy P N x.1 x.2.ty x.2.cty = some x.2)
    (hf : ∀ f, f ∈ fs → ∀ fn, P.funcs[f]? = some fn → (fn.name == "runtime.NumGoroutine") = false) : EnvOK P (mkEnv P N tys fs gs) := by
  refine ⟨fun t ti h => ?_, fun f fi h => ?_, (fun f k h => by cases h), (fun f k h => by cases h), fun f => ⟨List.nodup_nil, fun k hk => (by cases hk)⟩, (fun t a h => by cases h)⟩
  · exact mkTy_ok (ht _ (lookT_mem h))
  · simp only [mkEnv, mkFn] at h
    split at h
    · rename_i hm
      split at h
      · rename_i fn hfn
        split at h
        · rename_i b hb
          injection h with h
          subst h
          simp only [List.any_eq_true] at hm
          obtain ⟨g, hg, hb2⟩ := hm
          have := Nat.eq_of_beq_eq_true hb2
          subst this
          exact ⟨fn, hfn, hb, rfl, rfl, hf _ hg fn hfn⟩
        · cases h
      · cases h
    · cases h

/-- … with functions of the library without a body -/
def lookX : List (FuncId × ExtK) → FuncId → Option ExtK
  | [], _ => none
  | x :: r, f => match Nat.beq x.1 f with
    | true => some x.2
    | false => lookX r f
def mkEnvX (P : Program) (N : Names) (tys : List (TypeId × TyI)) (fs : List FuncId) (gs : List Nat) (xs : List (FuncId × ExtK)) : Env :=
  { mkEnv P N tys fs gs with ext := lookX xs }
inductive ExtsOK (P : Program) : List (FuncId × ExtK) → Prop
  | nil : ExtsOK P []
  | cons {x : FuncId × ExtK} {r : List (FuncId × ExtK)} : ExtOK P x.1 x.2 → ExtsOK P r → ExtsOK P (x :: r)
theorem lookX_ok {P : Program} : ∀ {xs : List (FuncId × ExtK)}, ExtsOK P xs → ∀ {f k}, lookX xs f = some k → ExtOK P f k
  | _, .nil, _, _, h => by cases h
  | _, .cons (x := x) hx hr, f, k, h => by
    simp only [lookX] at h
    split at h
    · rename_i hb
      have := Nat.eq_of_beq_eq_true hb
      subst this
      injection h with h
      subst h
      exact hx
    · exact lookX_ok hr h
theorem mkEnvX_ok {P : Program} {N : Names} {tys : List (TypeId × TyI)} {fs : List FuncId} {gs : List Nat} {xs : List (FuncId × ExtK)} (h : EnvOK P (mkEnv P N tys fs gs)) (hx : ExtsOK P xs) : EnvOK P (mkEnvX P N tys fs gs xs) :=
  ⟨h.ty, h.fn, fun _ _ e => lookX_ok hx e, h.lst, h.ks, h.key⟩

/-- … with objects: the kinds' rows; which types' variables are objects; whose objects functions see -/
def lookK : List (TypeId × Nat) → TypeId → Option Nat
  | [], _ => none
  | x :: r, t => match Nat.beq x.1 t with
    | true => some x.2
    | false => lookK r t
def lookS : List (FuncId × List Nat) → FuncId → List Nat
  | [], _ => []
  | x :: r, f => match Nat.beq x.1 f with
    | true => x.2
    | false => lookS r f
def kindOf (ks : List (List Cell)) (kts : List (TypeId × Nat)) (t : TypeId) : Option (Nat × List Cell) := match lookK kts t with
  | some k => some (k, ks.getD k [])
  | none => none
def lookL : List (FuncId × LstK) → FuncId → Option LstK
  | [], _ => none
  | x :: r, f => match Nat.beq x.1 f with
    | true => some x.2
    | false => lookL r f
inductive LstsOK (P : Program) : List (FuncId × LstK) → Prop
  | nil : LstsOK P []
  | cons {x : FuncId × LstK} {r : List (FuncId × LstK)} : (∃ fn, P.funcs[x.1]? = some fn ∧ fn.body.isNone = false ∧ (fn.name == "runtime.NumGoroutine") = false) → LstOK P x.1 x.2 → LstsOK P r → LstsOK P (x :: r)
theorem lookL_ok {P : Program} : ∀ {xs : List (FuncId × LstK)}, LstsOK P xs → ∀ {f k}, lookL xs f = some k → (∃ fn, P.funcs[f]? = some fn ∧ fn.body.isNone = false ∧ (fn.name == "runtime.NumGoroutine") = false) ∧ LstOK P f k
  | _, .nil, _, _, h => by cases h
  | _, .cons (x := x) hf hx hr, f, k, h => by
    simp only [lookL] at h
    split at h
    · rename_i hb
      have := Nat.eq_of_beq_eq_true hb
      subst this
      injection h with h
      subst h
      exact ⟨hf, hx⟩
    · exact lookL_ok hr h
def mkEnvK (P : Program) (N : Names) (tys : List (TypeId × TyI)) (fs : List FuncId) (gs : List Nat) (xs : List (FuncId × ExtK)) (kinds : List (List Cell)) (kts : List (TypeId × Nat)) (kss : List (FuncId × List Nat)) (ls : List (FuncId × LstK)) : Env :=
  { mkEnvX P N tys fs gs xs with kind := kindOf kinds kts, kinds := kinds, ks := lookS kss, lst := lookL ls }
def kssOK (n : Nat) : List (FuncId × List Nat) → Bool
  | [] => true
  | x :: r => nodupN x.2 && x.2.all (fun k => Nat.blt k n) && kssOK n r
theorem nodupN_iff : ∀ {l : List Nat}, nodupN l = true → l.Nodup
  | [], _ => List.nodup_nil
  | x :: r, h => by
    simp only [nodupN, Bool.and_eq_true, Bool.not_eq_true'] at h
    rw [List.nodup_cons]
    refine ⟨fun hm => ?_, nodupN_iff h.2⟩
    rw [any_beq.2 hm] at h
    cases h.1
theorem lookS_ok {n : Nat} : ∀ {kss : List (FuncId × List Nat)}, kssOK n kss = true → ∀ f, (lookS kss f).Nodup ∧ ∀ k, k ∈ lookS kss f → k < n
  | [], _, f => ⟨List.nodup_nil, fun k hk => by cases hk⟩
  | x :: r, h, f => by
    simp only [kssOK, Bool.and_eq_true, List.all_eq_true] at h
    obtain ⟨⟨h1, h2⟩, h3⟩ := h
    simp only [lookS]
    split
    · exact ⟨nodupN_iff h1, fun k hk => Nat.le_of_ble_eq_true (h2 k hk)⟩
    · exact lookS_ok h3 f
theorem mkEnvK_ok {P : Program} {N : Names} {tys : List (TypeId × TyI)} {fs : List FuncId} {gs : List Nat} {xs : List (FuncId × ExtK)} {kinds : List (List Cell)} {kts : List (TypeId × Nat)} {kss : List (FuncId × List Nat)} {ls : List (FuncId × LstK)}
    (h : EnvOK P (mkEnvX P N tys fs gs xs)) (hk : kssOK kinds.length kss = true) (hl : LstsOK P ls) : EnvOK P (mkEnvK P N tys fs gs xs kinds kts kss ls) :=
  ⟨h.ty, h.fn, h.ext, fun _ _ e => lookL_ok hl e, lookS_ok hk, h.key⟩

theorem mkEnv_glob {P : Program} {N : Names} {tys : List (TypeId × TyI)} {fs : List FuncId} {gs : List Nat} {g : Nat} {row : List AV} (h : (mkEnv P N tys fs gs).glob g = some row) : row = [.er (.s g)] ∧ g ∈ gs := by
  simp only [mkEnv, lookG] at h
  split at h
  · rename_i hm
    injection h with h
    simp only [List.any_eq_true] at hm
    obtain ⟨g', hg, hb⟩ := hm
    rw [Nat.eq_of_beq_eq_true hb]
    exact ⟨by rw [← h, Nat.eq_of_beq_eq_true hb], hg⟩
  · cases h

theorem mkEnvK_glob {P : Program} {N : Names} {tys : List (TypeId × TyI)} {fs : List FuncId} {gs : List Nat} {xs : List (FuncId × ExtK)} {kinds : List (List Cell)} {kts : List (TypeId × Nat)} {kss : List (FuncId × List Nat)} {ls : List (FuncId × LstK)} {g : Nat} {row : List AV} (h : (mkEnvK P N tys fs gs xs kinds kts kss ls).glob g = some row) : row = [.er (.s g)] ∧ g ∈ gs := mkEnv_glob (P := P) (N := N) (tys := tys) (fs := fs) h

theorem mkEnvX_glob {P : Program} {N : Names} {tys : List (TypeId × TyI)} {fs : List FuncId} {gs : List Nat} {xs : List (FuncId × ExtK)} {g : Nat} {row : List AV} (h : (mkEnvX P N tys fs gs xs).glob g = some row) : row = [.er (.s g)] ∧ g ∈ gs := mkEnv_glob (P := P) (N := N) (tys := tys) (fs := fs) h

/-- … with maps: their kinds, by their types; the types of their keys; what else variables hold -/
def lookY : List (TypeId × Ty) → TypeId → Option Ty
  | [], _ => none
  | x :: r, t => match Nat.beq x.1 t with
    | true => some x.2
    | false => lookY r t
inductive KeysOK (P : Program) : List (TypeId × Ty) → Prop
  | nil : KeysOK P []
  | cons {x : TypeId × Ty} {r : List (TypeId × Ty)} : KeyOK P x.1 x.2 → KeysOK P r → KeysOK P (x :: r)
theorem lookY_ok {P : Program} : ∀ {xs : List (TypeId × Ty)}, KeysOK P xs → ∀ {t a}, lookY xs t = some a → KeyOK P t a
  | _, .nil, _, _, h => by cases h
  | _, .cons (x := x) hx hr, t, a, h => by
    simp only [lookY] at h
    split at h
    · rename_i hb
      have := Nat.eq_of_beq_eq_true hb
      subst this
      injection h with h
      subst h
      exact hx
    · exact lookY_ok hr h
def lookXG : List (Nat × List AV) → Nat → Option (List AV)
  | [], _ => none
  | x :: r, g => match Nat.beq x.1 g with
    | true => some x.2
    | false => lookXG r g
def mkEnvM (P : Program) (N : Names) (tys : List (TypeId × TyI)) (fs : List FuncId) (gs : List Nat) (xs : List (FuncId × ExtK)) (kinds : List (List Cell)) (kts : List (TypeId × Nat)) (kss : List (FuncId × List Nat)) (ls : List (FuncId × LstK))
    (mks : List (TypeId × Nat)) (keys : List (TypeId × Ty)) (xg : List (Nat × List AV)) : Env :=
  { mkEnvK P N tys fs gs xs kinds kts kss ls with mkind := lookK mks, key := lookY keys, glob := fun g => match lookXG xg g with
    | some r => some r
    | none => lookG gs g }
theorem mkEnvM_ok {P : Program} {N : Names} {tys : List (TypeId × TyI)} {fs : List FuncId} {gs : List Nat} {xs : List (FuncId × ExtK)} {kinds : List (List Cell)} {kts : List (TypeId × Nat)} {kss : List (FuncId × List Nat)} {ls : List (FuncId × LstK)}
    {mks : List (TypeId × Nat)} {keys : List (TypeId × Ty)} {xg : List (Nat × List AV)} (h : EnvOK P (mkEnvK P N tys fs gs xs kinds kts kss ls)) (hk : KeysOK P keys) : EnvOK P (mkEnvM P N tys fs gs xs kinds kts kss ls mks keys xg) :=
  ⟨h.ty, h.fn, h.ext, h.lst, h.ks, fun _ _ e => lookY_ok hk e⟩

/-! Types of keys. -/

theorem check1 {P : Program} {kt : TypeId} {k : IntKind} (h : P.underlying kt = some (.int k)) (e : Bool) (v : Value) (n : Nat) (w : World) : (Instr.checkKey e (n + 1) kt v).run P w = .ok () w := by
  simp [Instr.checkKey, underlying, h]
theorem check1s {P : Program} {kt : TypeId} (h : P.underlying kt = some .string) (e : Bool) (v : Value) (n : Nat) (w : World) : (Instr.checkKey e (n + 1) kt v).run P w = .ok () w := by
  simp [Instr.checkKey, underlying, h]

theorem KeyOK.int {P : Program} {kt : TypeId} {k : IntKind} (h : P.underlying kt = some (.int k)) : KeyOK P kt (.int k) := by
  refine ⟨rfl, rfl, fun e x w => check1 h e _ 9999 w, _, h, .inl fun x y => ?_⟩
  · simp [keyV, keyC, Ty.isAgg, Instr.sameNow, keyEq, decide_eq_decide]
    rfl

theorem KeyOK.str {P : Program} {kt : TypeId} (h : P.underlying kt = some .string) : KeyOK P kt .str := by
  refine ⟨rfl, rfl, fun e x w => check1s h e _ 9999 w, _, h, .inl fun x y => ?_⟩
  · simp only [keyV, keyC, Ty.isAgg, Instr.sameNow, keyEq, List.getD_cons_zero]
    rw [beq_toListBytes]

/-- what a struct of keys is to have -/
def keyF (P : Program) (t : TypeId) : Option (Array Field) := match P.underlying t with
  | some (.struct fs) => match P.stoodInHeld t with
    | true => none
    | false => some fs
  | _ => none

def isInt (P : Program) (k : IntKind) (f : Field) (off : Nat) : Bool := (match P.underlying f.type with
  | some (.int k') => sameK k' k
  | _ => false) && Nat.beq f.offset off && !(f.name == "_")

def key2B (P : Program) (t : TypeId) (k k' : IntKind) : Bool := match keyF P t with
  | some fs => match fs.toList with
    | [f, g] => isInt P k f 0 && isInt P k' g 1
    | _ => false
  | none => false

theorem isInt_inv {P : Program} {k : IntKind} {f : Field} {off : Nat} (h : isInt P k f off = true) : P.underlying f.type = some (.int k) ∧ f.offset = off ∧ f.name ≠ "_" := by
  simp only [isInt, Bool.and_eq_true, Bool.not_eq_true', beq_eq_false_iff_ne] at h
  obtain ⟨⟨h1, h2⟩, h3⟩ := h
  refine ⟨?_, Nat.eq_of_beq_eq_true h2, h3⟩
  split at h1
  · rename_i k' hk
    rw [hk, sameK_eq h1]
  · cases h1

theorem run_partInt {P : Program} {t : TypeId} {k : IntKind} (h : P.underlying t = some (.int k)) {cs : Array Value} {off : Nat} {v : Value} (hv : cs[off]? = some v) (w : World) : (Go.part t cs off).run P w = .ok v w := by
  simp [Go.part, Go.isAgg, underlying, h, hv]

theorem key2_inv {P : Program} {t : TypeId} {k k' : IntKind} (h : key2B P t k k' = true) : ∃ f g : Field, P.underlying t = some (.struct #[f, g]) ∧ P.stoodInHeld t = false ∧ isInt P k f 0 = true ∧ isInt P k' g 1 = true := by
  unfold key2B keyF at h
  split at h
  · rename_i fs hfs
    split at hfs
    · rename_i fs' hu
      split at hfs
      · cases hfs
      · rename_i hs
        injection hfs with hfs
        subst hfs
        split at h
        · rename_i f g hl
          simp only [Bool.and_eq_true] at h
          refine ⟨f, g, ?_, hs, h.1, h.2⟩
          rw [hu]
          congr 2
          exact Array.ext' (by rw [hl])
        · cases h
    · cases hfs
  · cases h

theorem equal2 {P : Program} {t : TypeId} {k k' : IntKind} (h : key2B P t k k' = true) (a b c d : Int) (n : Nat) (w : World) :
    (Op.equalIn (n + 2) t (.agg #[.int k a, .int k' b]) (.agg #[.int k c, .int k' d])).run P w = .ok (decide (a = c) && decide (b = d)) w := by
  obtain ⟨f, g, hu, hs, hf, hg⟩ := key2_inv h
  obtain ⟨f1, f2, f3⟩ := isInt_inv hf
  obtain ⟨g1, g2, g3⟩ := isInt_inv hg
  have hfo : P.fieldsOf t = #[f, g] := by simp [Program.fieldsOf, hu]
  rw [run_equalIn_struct w (n + 1) t _ _ (by rw [hfo]; exact hu) hs, hfo]
  simp only [Op.eqFields, f3, g3, ne_eq, not_false_eq_true, if_true, f2, g2]
  simp only [Sem.run_bind, run_partInt f1 (show (#[Value.int k a, .int k' b] : Array Value)[0]? = some (.int k a) from rfl), run_partInt f1 (show (#[Value.int k c, .int k' d] : Array Value)[0]? = some (.int k c) from rfl), Result.andThen_ok, run_equalIn_int w n _ _ _ _ _ f1]
  by_cases hac : a = c
  · simp only [hac, beq_self_eq_true, Bool.not_true, Bool.false_eq_true, if_false, decide_true, Bool.true_and]
    simp only [Sem.run_bind, run_partInt g1 (show (#[Value.int k c, .int k' b] : Array Value)[1]? = some (.int k' b) from rfl), run_partInt g1 (show (#[Value.int k c, .int k' d] : Array Value)[1]? = some (.int k' d) from rfl), Result.andThen_ok, run_equalIn_int w n _ _ _ _ _ g1]
    by_cases hbd : b = d
    · simp [hbd]
    · simp [hbd]
  · have : (a == c) = false := by simpa using hac
    simp [this, hac]

theorem check2 {P : Program} {t : TypeId} {k k' : IntKind} (h : key2B P t k k' = true) (e : Bool) (a b : Int) (n : Nat) (w : World) : (Instr.checkKey e (n + 2) t (.agg #[.int k a, .int k' b])).run P w = .ok () w := by
  obtain ⟨f, g, hu, hs, hf, hg⟩ := key2_inv h
  obtain ⟨f1, f2, f3⟩ := isInt_inv hf
  obtain ⟨g1, g2, g3⟩ := isInt_inv hg
  simp [Instr.checkKey, underlying, hu, f1, g1, f2, g2, f3, g3, run_partInt f1 (show (#[Value.int k a, .int k' b] : Array Value)[0]? = some (.int k a) from rfl), run_partInt g1 (show (#[Value.int k a, .int k' b] : Array Value)[1]? = some (.int k' b) from rfl)]

theorem KeyOK.two {P : Program} {t : TypeId} {k k' : IntKind} (h : key2B P t k k' = true) : KeyOK P t (.st (.pair (.int k) (.int k'))) := by
  obtain ⟨f, g, hu, hs, hf, hg⟩ := key2_inv h
  refine ⟨rfl, rfl, fun e x w => ?_, _, hu, .inr ⟨fun x y => rfl, fun x y w => ?_⟩⟩
  · exact check2 h e x.1 x.2 9998 w
  · simp only [Op.equal, Op.maxDepth]
    exact equal2 h x.1 x.2 y.1 y.2 9998 w

def key3B (P : Program) (t u : TypeId) (k k' k'' : IntKind) : Bool := match keyF P t with
  | some fs => match fs.toList with
    | [f, g] => Nat.beq f.type u && key2B P u k k' && Nat.beq f.offset 0 && !(f.name == "_") && (match P.info? u with | some i => Nat.beq i.size 2 | none => false) && isInt P k'' g 2
    | _ => false
  | none => false

theorem key3_inv {P : Program} {t u : TypeId} {k k' k'' : IntKind} (h : key3B P t u k k' k'' = true) : ∃ f g : Field, P.underlying t = some (.struct #[f, g]) ∧ P.stoodInHeld t = false ∧ f.type = u ∧ key2B P u k k' = true ∧ f.offset = 0 ∧ f.name ≠ "_" ∧ (∃ i, P.info? u = some i ∧ i.size = 2) ∧ isInt P k'' g 2 = true := by
  unfold key3B keyF at h
  split at h
  · rename_i fs hfs
    split at hfs
    · rename_i fs' hu
      split at hfs
      · cases hfs
      · rename_i hs
        injection hfs with hfs
        subst hfs
        split at h
        · rename_i f g hl
          simp only [Bool.and_eq_true, Bool.not_eq_true', beq_eq_false_iff_ne] at h
          obtain ⟨⟨⟨⟨⟨h1, h2⟩, h3⟩, h4⟩, h5⟩, h6⟩ := h
          refine ⟨f, g, ?_, hs, Nat.eq_of_beq_eq_true h1, h2, Nat.eq_of_beq_eq_true h3, h4, ?_, h6⟩
          · rw [hu]
            congr 2
            exact Array.ext' (by rw [hl])
          · split at h5
            · rename_i i hi
              exact ⟨i, hi, Nat.eq_of_beq_eq_true h5⟩
            · cases h5
        · cases h
    · cases hfs
  · cases h

theorem run_partAgg {P : Program} {u : TypeId} {k k' : IntKind} (h : key2B P u k k' = true) (hi : ∃ i, P.info? u = some i ∧ i.size = 2) (a b c : Value) (w : World) : (Go.part u #[a, b, c] 0).run P w = .ok (.agg #[a, b]) w := by
  obtain ⟨f, g, hu, _⟩ := key2_inv h
  obtain ⟨i, hi, hs⟩ := hi
  simp [Go.part, Go.isAgg, underlying, hu, sizeOf, typeInfo, hi, hs]

theorem check3 {P : Program} {t u : TypeId} {k k' k'' : IntKind} (h : key3B P t u k k' k'' = true) (e : Bool) (a b c : Int) (n : Nat) (w : World) : (Instr.checkKey e (n + 3) t (.agg #[.int k a, .int k' b, .int k'' c])).run P w = .ok () w := by
  obtain ⟨f, g, hu, hs, hfu, h2, f2, f3, hi, hg⟩ := key3_inv h
  obtain ⟨g1, g2, g3⟩ := isInt_inv hg
  rw [Instr.checkKey]
  simp [underlying, hu, hfu, f2, f3, g2, g3, run_partAgg h2 hi, check2 h2, check1 g1, run_partInt g1 (show (#[Value.int k a, .int k' b, .int k'' c] : Array Value)[2]? = some (.int k'' c) from rfl)]

theorem KeyOK.three {P : Program} {t u : TypeId} {k k' k'' : IntKind} (h : key3B P t u k k' k'' = true) : KeyOK P t (.st (.pair (.st (.pair (.int k) (.int k'))) (.int k''))) := by
  obtain ⟨f, g, hu, hs, hfu, h2, f2, f3, hi, hg⟩ := key3_inv h
  obtain ⟨g1, g2, g3⟩ := isInt_inv hg
  have hfo : P.fieldsOf t = #[f, g] := by simp [Program.fieldsOf, hu]
  refine ⟨rfl, rfl, fun e x w => ?_, _, hu, .inr ⟨fun x y => rfl, fun x y w => ?_⟩⟩
  · obtain ⟨⟨a, b⟩, c⟩ := x
    show (Instr.checkKey e 10000 t (.agg #[.int k a, .int k' b, .int k'' c])).run P w = .ok () w
    exact check3 h e a b c 9997 w
  · obtain ⟨⟨a, b⟩, c⟩ := x
    obtain ⟨⟨a', b'⟩, c'⟩ := y
    show (Op.equal t (.agg #[.int k a, .int k' b, .int k'' c]) (.agg #[.int k a', .int k' b', .int k'' c'])).run P w = .ok ((decide (a = a') && decide (b = b')) && decide (c = c')) w
    simp only [Op.equal, Op.maxDepth]
    rw [run_equalIn_struct w 9999 t _ _ (by rw [hfo]; exact hu) hs, hfo]
    simp only [Op.eqFields, f3, g3, ne_eq, not_false_eq_true, if_true, f2, g2, hfu]
    simp only [Sem.run_bind, run_partAgg h2 hi, Result.andThen_ok, equal2 h2 a b a' b' 9997 w]
    cases hq : (decide (a = a') && decide (b = b')) with
    | false => simp
    | true =>
      simp only [Bool.not_true, Bool.false_eq_true, if_false, Bool.true_and]
      simp only [Sem.run_bind, run_partInt g1 (show (#[Value.int k a, .int k' b, .int k'' c] : Array Value)[2]? = some (.int k'' c) from rfl), run_partInt g1 (show (#[Value.int k a', .int k' b', .int k'' c'] : Array Value)[2]? = some (.int k'' c') from rfl), Result.andThen_ok, run_equalIn_int w 9998 _ _ _ _ _ g1]
      by_cases hcd : c = c'
      · simp [hcd]
      · simp [hcd]

end Go.Eng

/-
  The abstract machine, part 27: tables of what is known, put together.
-/
namespace Go.Eng

/-! numbers cut to their kinds -/
abbrev wi8 (n : Int) : Int := IntKind.wrap .i8 n
abbrev wi16 (n : Int) : Int := IntKind.wrap .i16 n
abbrev wi32 (n : Int) : Int := IntKind.wrap .i32 n
abbrev wi64 (n : Int) : Int := IntKind.wrap .i64 n
abbrev wu8 (n : Int) : Int := IntKind.wrap .u8 n
abbrev wu16 (n : Int) : Int := IntKind.wrap .u16 n
abbrev wu32 (n : Int) : Int := IntKind.wrap .u32 n
abbrev wu64 (n : Int) : Int := IntKind.wrap .u64 n

section
variable {P : Program} {E : Env} {S : Ini}

theorem CallsOK.nil : CallsOK P E S [] := fun c h => by cases h
theorem CallsOK.cons {c : CallSpec E} {cs : List (CallSpec E)} (h : ∀ x y, c.g x = some y → FCon P E S c.f c.ps c.rs x y) (hs : CallsOK P E S cs) : CallsOK P E S (c :: cs) := by
  intro d hd
  rcases List.mem_cons.1 hd with rfl | hd
  · exact h
  · exact hs d hd

theorem LoopsOK.nil {tk : List Nat} {all : List Code} : LoopsOK P E S tk all [] := fun c h => by cases h
theorem LoopsOK.cons {tk : List Nat} {all : List Code} {l : LoopSpec E tk} {ls : List (LoopSpec E tk)} {body : Code} (hb : all[l.i]? = some body) (h : ∀ x y, l.g x = some y → LoopCon P E S body (encSlots E tk l.head x) (encEx E tk l.ex y).1 (encEx E tk l.ex y).2) (hs : LoopsOK P E S tk all ls) : LoopsOK P E S tk all (l :: ls) := by
  intro d hd
  rcases List.mem_cons.1 hd with rfl | hd
  · intro c hc
    rw [hb] at hc
    injection hc with hc
    subst hc
    exact h
  · exact hs d hd

/-- A FUNCTION OF ONE SLICE that asks whether that is nil -/
theorem nil_spec (hE : EnvOK P E) (hm : P.follows .mixedOrders = true) {f : FuncId} {fi : FnI} (hf : E.fn f = some fi) (hok : codeOK fi.body = true) {t : Ty} {l : List (Val t)} {T : Val (tabsTy E.kinds (E.ks f))} {rs : List Slot} {y : StV E (E.ks f) rs}
    (h1 : funJKA E (E.ks f) [] [] [] fi [.nsl t l] (encTabs E.kinds (E.ks f) T) rs = some y) (h2 : l = [] → funJKA E (E.ks f) [] [] [] fi [.v (.slice none 0 0)] (encTabs E.kinds (E.ks f) T) rs = some y) : FCon P E S f [.sl t] rs (T, (l, ())) y := by
  have hcs : CallsOK P E S [] := CallsOK.nil
  have hls : LoopsOK P E S (E.ks f) (loopsOf fi.body) [] := LoopsOK.nil
  intro b0 w I L Rt B vs hW hb0 hs
  have hargs := hs.env
  simp only [encL, RepL] at hargs
  obtain ⟨v, tl, hvs, hv, rfl⟩ := hargs
  have hv' : RepT (rcW (statOf E S) I L w) (.sl t) l [v] := hv
  obtain ⟨ad, cap, hsl, hcap, hrow, hz⟩ := hv'
  simp only [List.cons.injEq, and_true] at hsl
  cases ad with
  | none =>
    have hc := hz rfl
    have hl : l = [] := by
      refine List.length_eq_zero_iff.1 ?_
      omega
    refine fun_specA hE hm hcs hf hls hok (h2 hl) b0 w I L Rt B vs hW hb0 (hs.args ?_)
    simp only [Ctx.rc]
    rw [hvs]
    simp only [RepL, Rep]
    exact ⟨v, [], rfl, by rw [hsl, hc, hl]; rfl, rfl⟩
  | some a =>
    refine fun_specA hE hm hcs hf hls hok h1 b0 w I L Rt B vs hW hb0 (hs.args ?_)
    simp only [Ctx.rc]
    rw [hvs]
    simp only [RepL, Rep]
    exact ⟨v, [], rfl, ⟨hv, a, _, cap, hsl⟩, rfl⟩

def TysOK (P : Program) (N : Names) : List (TypeId × TyI) → Prop
  | [] => True
  | x :: r => mkTy P N x.1 x.2.ty x.2.cty = some x.2 ∧ TysOK P N r

theorem TysOK.mem {P : Program} {N : Names} : ∀ {l : List (TypeId × TyI)}, TysOK P N l → ∀ x, x ∈ l → mkTy P N x.1 x.2.ty x.2.cty = some x.2
  | [], _, _, h => by cases h
  | y :: r, h, x, hx => by
    rcases List.mem_cons.1 hx with rfl | hx
    · exact h.1
    · exact TysOK.mem h.2 x hx

def fnsOK (P : Program) (l : List Nat) : Bool := l.all fun f => match P.funcs[f]? with
  | some fn => !(fn.name == "runtime.NumGoroutine")
  | none => true

theorem fnsOK.mem {P : Program} {l : List Nat} (h : fnsOK P l = true) : ∀ f, f ∈ l → ∀ fn, P.funcs[f]? = some fn → (fn.name == "runtime.NumGoroutine") = false := by
  intro f hf fn hfn
  simp only [fnsOK, List.all_eq_true] at h
  have := h f hf
  rw [hfn] at this
  simpa using this

theorem inner_of {all : List Code} {body : Code} {i : Nat} (h : (all.drop (i + 1)).take (loopsOf body).length = loopsOf body) : ∀ j d, (loopsOf body)[j]? = some d → all[i + 1 + j]? = some d := by
  intro j d hd
  have hlt : j < (loopsOf body).length := (List.getElem?_eq_some_iff.1 hd).1
  rw [← h, List.getElem?_take_of_lt hlt, List.getElem?_drop] at hd
  exact hd

end
end Go.Eng

/-
  The abstract machine, part 28: a call's arguments, read off their places.
-/
namespace Go.Eng

/-- numbers within their kinds, lists that may be -/
def FitsT : (t : Ty) → Val t → Prop
  | .int k, n => (Lit.int k n).wf = true
  | .str, s => s.size ≤ maxLen
  | .pair a b, p => FitsT a p.1 ∧ FitsT b p.2
  | .st a, x => FitsT a x
  | .sl a, l => l.length ≤ maxLen ∧ ∀ i, i < l.length → FitsT a (l.getD i (dfl a))
  | _, _ => True

/-- a struct's fields, one after the other -/
def fldsIs (P : Program) (is : TypeId → Ty → Bool) : List Field → Nat → Ty → Bool
  | [], _, .unit => true
  | [f], off, a => is f.type a && Nat.beq f.offset off && Nat.beq (P.cellsOf f.type) a.size
  | f :: g :: r, off, .pair a b => is f.type a && Nat.beq f.offset off && Nat.beq (P.cellsOf f.type) a.size && fldsIs P is (g :: r) (off + a.size) b
  | _, _, _ => false

/-- is it a type of plain data? -/
def tyIs (P : Program) : Nat → TypeId → Ty → Bool
  | 0, _, _ => false
  | n + 1, t, u => match P.underlying t, u with
    | some .bool, .bool => true
    | some (.int k), .int k' => sameK k k'
    | some (.float .f64), .flt => true
    | some .string, .str => true
    | some (.slice e), .sl a => tyIs P n e a && Nat.beq (P.cellsOf e) a.size && Nat.blt 0 a.size
    | some (.struct fs), .st a => fldsIs P (tyIs P n) fs.toList 0 a && Nat.beq (P.cellsOf t) a.size
    | _, _ => false

section
variable {H : Type} {enc : TypeId × Value → H} {P : Program} {W : World} {sp : Nat → Bool} {held : Bool} {T : Stat}

theorem trod_flt {t : TypeId} {fuel : Nat} {cs : List Value} {x : DataW H × List MemPlace} (ht : P.underlying t = some (.float .f64)) (h : DataW.trod enc P W 0 sp held fuel t cs = some x) : ∃ b, cs = [.float .f64 b] := by
  cases fuel with
  | zero => simp [DataW.trod] at h
  | succ n =>
    unfold DataW.trod at h
    rw [ht] at h
    split at h <;> simp_all

theorem list_of {α : Type} (d : α) {p : Nat → α → Prop} : ∀ n : Nat, (∀ i, i < n → ∃ x, p i x) → ∃ l : List α, l.length = n ∧ ∀ i, i < n → p i (l.getD i d)
  | 0, _ => ⟨[], rfl, fun i hi => by omega⟩
  | n + 1, h => by
    obtain ⟨l, hl, hp⟩ := list_of d n fun i hi => h i (by omega)
    obtain ⟨x, hx⟩ := h n (by omega)
    refine ⟨l ++ [x], by simp [hl], fun i hi => ?_⟩
    rw [List.getD_eq_getElem?_getD]
    by_cases hin : i < n
    · rw [List.getElem?_append_left (by omega), ← List.getD_eq_getElem?_getD]
      exact hp i hin
    · have : i = n := by omega
      subst this
      rw [List.getElem?_append_right (by omega), hl, Nat.sub_self]
      exact hx

theorem flds_rep {is : TypeId → Ty → Bool} {fuel : Nat} {cs : List Value} (his : ∀ t u cs' x, is t u = true → DataW.trod enc P W 0 sp held fuel t cs' = some x → ∃ y : Val u, RepT (rcW T (fun b => b < W.heap.size) noL W) u y cs' ∧ FitsT u y) :
    ∀ (fs : List Field) (off : Nat) (a : Ty), fldsIs P is fs off a = true → (∀ f, f ∈ fs → ∃ x, DataW.trod enc P W 0 sp held fuel f.type ((cs.drop f.offset).take (P.cellsOf f.type)) = some x) →
      ∃ y : Val a, RepT (rcW T (fun b => b < W.heap.size) noL W) a y ((cs.drop off).take a.size) ∧ FitsT a y
  | [], off, a, h, hx => by
    cases a <;> simp [fldsIs] at h
    exact ⟨(), by simp [RepT, Ty.size], trivial⟩
  | [f], off, a, h, hx => by
    simp only [fldsIs, Bool.and_eq_true] at h
    obtain ⟨⟨h1, h2⟩, h3⟩ := h
    obtain ⟨x, hx⟩ := hx f (by simp)
    rw [Nat.eq_of_beq_eq_true h2, Nat.eq_of_beq_eq_true h3] at hx
    exact his _ _ _ _ h1 hx
  | f :: g :: r, off, a, h, hx => by
    cases a <;> simp only [fldsIs, Bool.false_eq_true] at h
    rename_i a b
    simp only [Bool.and_eq_true] at h
    obtain ⟨⟨⟨h1, h2⟩, h3⟩, h4⟩ := h
    obtain ⟨x, hx1⟩ := hx f (by simp)
    rw [Nat.eq_of_beq_eq_true h2, Nat.eq_of_beq_eq_true h3] at hx1
    obtain ⟨y, hy, hfy⟩ := his _ _ _ _ h1 hx1
    obtain ⟨z, hz, hfz⟩ := flds_rep his (g :: r) (off + a.size) b h4 fun k hk => hx k (List.mem_cons_of_mem _ hk)
    refine ⟨(y, z), ⟨_, _, ?_, hy, hz⟩, hfy, hfz⟩
    rw [Ty.size, List.take_add, List.drop_drop]

theorem trod_rep : ∀ (n : Nat) (t : TypeId) (u : Ty) (fuel : Nat) (cs : List Value) (x : DataW H × List MemPlace), tyIs P n t u = true → DataW.trod enc P W 0 sp held fuel t cs = some x →
    ∃ y : Val u, RepT (rcW T (fun b => b < W.heap.size) noL W) u y cs ∧ FitsT u y
  | 0, t, u, fuel, cs, x, h, hx => by cases h
  | n + 1, t, u, fuel, cs, x, h, hx => by
    simp only [tyIs] at h
    split at h
    · rename_i ht
      obtain ⟨b, rfl, _⟩ := DataW.trod_bool ht hx
      exact ⟨b, rfl, trivial⟩
    · rename_i k k' ht
      obtain rfl := sameK_eq h
      obtain ⟨m, rfl, _, hw⟩ := DataW.trod_int ht hx
      exact ⟨m, rfl, hw⟩
    · rename_i ht
      obtain ⟨b, rfl⟩ := trod_flt ht hx
      exact ⟨b, rfl, trivial⟩
    · rename_i ht
      obtain ⟨s, rfl, _, hs⟩ := DataW.trod_string ht hx
      exact ⟨s, rfl, hs⟩
    · rename_i e a ht
      simp only [Bool.and_eq_true] at h
      obtain ⟨⟨h1, h2⟩, h3⟩ := h
      have h2 := Nat.eq_of_beq_eq_true h2
      have h3 : 0 < a.size := Nat.le_of_ble_eq_true h3
      rcases DataW.trod_slice ht hx with ⟨rfl, _⟩ | ⟨ad, len, cap, elems, rest, m, _, rfl, _, hb, hl, hm, hlen, hel, _, _⟩
      · exact ⟨([] : List (Val a)), ⟨none, 0, rfl, Nat.le_refl _, fun hn => absurd rfl hn, fun _ => rfl⟩, Nat.zero_le _, fun i hi => absurd hi (Nat.not_lt_zero _)⟩
      · have key : ∀ i, i < len → ∃ y : Val a, (∃ c, RepT (rcW T (fun b => b < W.heap.size) noL W) a y c ∧ c.length = a.size ∧ ∀ j, j < a.size → W.cell? ((ad.add (i * a.size)).add j) = c[j]?) ∧ FitsT a y := by
          intro i hi
          have h0 := hel i hi
          rw [List.getElem?_eq_getElem (by omega), h2] at h0
          obtain ⟨c, hc, hc2⟩ := Option.bind_eq_some_iff.1 h0
          obtain ⟨y, hy, hf⟩ := trod_rep n e a m c _ h1 hc2
          obtain ⟨_, hcl, hcc⟩ := World.cells?_some hc
          exact ⟨y, ⟨c, hy, hcl, hcc⟩, hf⟩
        obtain ⟨l, hll, hp⟩ := list_of (dfl a) len key
        refine ⟨l, ⟨some ad, cap, by rw [hll], by rw [hll]; exact hl, fun hn => ?_, fun h => by cases h⟩, by rw [hll]; omega, fun i hi => (hp i (by omega)).2⟩
        rw [hll] at hn
        obtain ⟨⟨c0, _, hc0l, hc0⟩, _⟩ := hp 0 (by omega)
        have hc00 := hc0 0 h3
        simp only [Nat.zero_mul, Addr.add, if_true] at hc00
        rw [List.getElem?_eq_getElem (by omega)] at hc00
        have hspot : ad.spot = none ∧ ad.block < W.heap.size := by
          unfold World.cell? at hc00
          split at hc00
          · rename_i hh
            split at hc00
            · cases hc00
            · rename_i hs
              refine ⟨by simpa using hs, ?_⟩
              exact (Array.getElem?_eq_some_iff.1 hh).1
          · cases hc00
        obtain ⟨b, o, s⟩ := ad
        obtain ⟨hs, hlt⟩ := hspot
        simp only at hs hlt
        subst hs
        refine ⟨b, o, rfl, hlt, fun i hi => ?_⟩
        obtain ⟨⟨c, hc, hcl, hcc⟩, _⟩ := hp i (by omega)
        refine ⟨c, hc, fun j v hj => ?_⟩
        have hjl : j < a.size := by rw [← hcl]; exact (List.getElem?_eq_some_iff.1 hj).1
        have := hcc j hjl
        rw [hj] at this
        have hadd : ((⟨b, o, none⟩ : Addr).add (i * a.size)).add j = ⟨b, o + i * a.size + j, none⟩ := by
          unfold Addr.add
          by_cases h0 : i * a.size = 0
          · rw [if_pos h0, h0]
            by_cases h1 : j = 0
            · rw [if_pos h1, h1]; rfl
            · rw [if_neg h1]; rfl
          · rw [if_neg h0]
            by_cases h1 : j = 0
            · rw [if_pos h1, h1]; rfl
            · rw [if_neg h1]
        rw [hadd] at this
        exact this
    · rename_i fs a ht
      simp only [Bool.and_eq_true] at h
      obtain ⟨xs, m, _, _, hcl, hxl, hxs⟩ := DataW.trod_struct ht hx
      obtain ⟨y, hy, hf⟩ := flds_rep (cs := cs) (fuel := m) (fun t u cs' x h h' => trod_rep n t u m cs' x h h') fs.toList 0 a h.1 fun f hf => by
        obtain ⟨i, hi, he⟩ := List.getElem_of_mem hf
        have : fs[i]? = some f := by rw [← Array.getElem?_toList, List.getElem?_eq_getElem hi, he]
        have := hxs i f this
        rw [List.getElem?_eq_getElem (by rw [hxl]; simpa using hi)] at this
        exact ⟨_, this⟩
      refine ⟨y, ?_, hf⟩
      rw [List.drop_zero, List.take_of_length_le (by rw [hcl, Nat.eq_of_beq_eq_true h.2]; exact Nat.le_refl _)] at hy
      exact hy
    · cases h

/-- one argument -/
theorem arg_rep {n : Nat} {t : TypeId} {u : Ty} {v : Value} {d : DataW H} {ps : List MemPlace} {r : Reach} {b0 : Nat} (h : tyIs P n t u = true) (hval : Value.okWide P W r b0 t v) (hd : DataW.Trod enc P W 0 sp held t v d ps) :
    ∃ y : Val u, Rep (rcW T (fun b => b < W.heap.size) noL W) noL (encA u y) v ∧ FitsT u y := by
  obtain ⟨fuel, hf⟩ := hd
  obtain ⟨y, hy, hfit⟩ := trod_rep (T := T) n t u fuel _ _ h hf
  refine ⟨y, ?_, hfit⟩
  cases n with
  | zero => cases h
  | succ n =>
    have hr := RepL.ofT (L := noL) u hy
    have single : u.one = true → (∀ cs, v ≠ .agg cs) → Rep (rcW T (fun b => b < W.heap.size) noL W) noL (encA u y) v := by
      intro h1 hv
      obtain ⟨z, hz, hz2⟩ := cellsT_one u y h1
      have hc : v.cells = #[v] := by
        cases v <;> first | rfl | exact absurd rfl (hv _)
      rw [hz, hc] at hr
      simp only [RepL] at hr
      obtain ⟨w, tl, he, hw, _⟩ := hr
      simp only [List.cons.injEq] at he
      rw [hz2, he.1]
      exact hw
    simp only [tyIs] at h
    split at h
    · rename_i ht
      obtain ⟨b, rfl⟩ := WideShapes.okWide_bool ht hval
      exact single rfl (by simp)
    · rename_i k k' ht
      obtain ⟨b, rfl⟩ := WideShapes.okWide_int ht hval
      exact single rfl (by simp)
    · rename_i ht
      refine single rfl fun cs e => ?_
      subst e
      simp only [Value.okWide, ht, _root_.Go.Cell.okWide, _root_.Go.Cell.ok] at hval
    · rename_i ht
      obtain ⟨b, rfl⟩ := WideShapes.okWide_string ht hval
      exact single rfl (by simp)
    · rename_i e a ht
      obtain ⟨b, l, c, rfl⟩ := WideShapes.okWide_slice ht hval
      exact single rfl (by simp)
    · rename_i fs a ht
      obtain ⟨cs, rfl, _⟩ := WideShapes.okWide_struct ht hval
      unfold encA
      simp only [Ty.isAgg, Rep]
      exact ⟨cs, rfl, hr⟩
    · cases h

def tysIs (P : Program) : List TypeId → List Ty → Bool
  | [], [] => true
  | t :: ts, u :: us => tyIs P 12 t u && tysIs P ts us
  | _, _ => false

def FitsL : (us : List Ty) → Val (rowTy us) → Prop
  | [], _ => True
  | u :: us, x => FitsT u x.1 ∧ FitsL us x.2

/-- all arguments -/
theorem args_rep {r : Reach} {b0 : Nat} : ∀ {ts : List TypeId} {us : List Ty} {vs : List Value} {ds : List (DataW H)} {ps : List MemPlace}, tysIs P ts us = true → (∀ (j : Nat) t v, ts[j]? = some t → vs[j]? = some v → Value.okWide P W r b0 t v) →
    DataW.TrodAll enc P W 0 sp held ts vs ds ps → ∃ x : Val (rowTy us), RepL (rcW T (fun b => b < W.heap.size) noL W) noL (encL us x) vs ∧ FitsL us x
  | [], [], vs, ds, ps, _, _, h => by
    obtain ⟨rfl, rfl, rfl⟩ := ChangeShapes.trodAll_nil h
    exact ⟨(), by simp [encL, RepL], trivial⟩
  | [], _ :: _, _, _, _, h, _, _ => by cases h
  | _ :: _, [], _, _, _, h, _, _ => by cases h
  | t :: ts, u :: us, vs, ds, ps, h, hval, hd => by
    simp only [tysIs, Bool.and_eq_true] at h
    obtain ⟨v, vs', d, ds', p, q, rfl, rfl, rfl, h1, h2⟩ := ChangeShapes.trodAll_cons hd
    obtain ⟨y, hy, hfy⟩ := arg_rep (T := T) h.1 (hval 0 t v rfl rfl) h1
    obtain ⟨z, hz, hfz⟩ := args_rep h.2 (fun j t v h h' => hval (j + 1) t v (by simpa using h) (by simpa using h')) h2
    refine ⟨(y, z), ?_, hfy, hfz⟩
    simp only [encL, RepL]
    exact ⟨v, vs', rfl, hy, hz⟩

end
end Go.Eng

/-
  The abstract machine, part 29: a function in two pieces: what stands ahead of a range over a function; and what follows.
-/
namespace Go.Eng

/-- the first n of a sequence; the rest -/
def spineC : Nat → Code → Code × Code
  | n + 1, .seq a b => (.seq a (spineC n b).1, (spineC n b).2)
  | _, c => (.skip, c)

/-- the second of two -/
def second : Code → Code
  | .seq _ b => b
  | c => c

/-- a function's pieces as if they were loops (for the printer) -/
def pieces (n : Nat) (c : Code) : Code := .seq (.block 99 (.loop (.seq (spineC n c).1 (.exit 99)))) (.loop (second (spineC n c).2))

section
variable {P : Program} {E : Env} {S : Ini} {tk : List Nat}

def Spin (P : Program) (E : Env) (S : Ini) (T c : Code) (s : St) (x : AX) (t : St) : Prop := match x with
  | .normal => ∀ (w0 : World) (Rt : Nat → Prop) (B : Nat → Nat → Option Pl) (Ds : List Deferred) (I0 I : Nat → Prop) (L : Ref → Option Pl) (a : Act) (w : World), WOK P E S w0 → Sim ⟨P, E, S, w0, I0, Rt, B, Ds⟩ I L s a w →
    ∀ Q : Exit → Act → World → Prop, (∀ I' L' a' w', Sim ⟨P, E, S, w0, I0, Rt, B, Ds⟩ I' L' t a' w' → T.wp P Q a' w') → c.wp P Q a w
  | x => CodeCon P E S c s x t

/-- the first piece -/
theorem spineC_sound (hE : EnvOK P E) (hm : P.follows .mixedOrders = true) (hK : KindsOK E tk) {cs : List (CallSpec E)} (hcs : CallsOK P E S cs) {all : List Code} {ls : List (LoopSpec E tk)} (hls : LoopsOK P E S tk all ls) {js : Joins} :
    ∀ (j : Nat) (c : Code) (n m : Nat) (s : St) (R : Type) (k : AX → St → Option R) (z : R), codeOK (spineC j c).1 = true → (∀ i d, (loopsOf (spineC j c).1)[i]? = some d → all[n + i]? = some d) → runJK E tk cs ls js (spineC j c).1 n m s R k = some z → ∃ x t, Spin P E S (spineC j c).2 c s x t ∧ k x t = some z := by
  have base : ∀ (c : Code) (n m : Nat) (s : St) (R : Type) (k : AX → St → Option R) (z : R), runJK E tk cs ls js .skip n m s R k = some z → ∃ x t, Spin P E S c c s x t ∧ k x t = some z := fun c n m s R k z e =>
    ⟨.normal, s, fun w0 Rt B Ds I0 I L a w hW hs Q hQ => hQ I L a w hs, e⟩
  intro j
  induction j with
  | zero =>
    intro c n m s R k z _ _ e
    exact base c n m s R k z (by simpa only [spineC] using e)
  | succ j ih =>
    intro c
    cases c with
    | seq a b =>
      intro n m s R k z hok hall e
      simp only [spineC] at hok hall e ⊢
      simp only [codeOK, Bool.and_eq_true] at hok
      have hc : ∀ i d', (loopsOf a)[i]? = some d' → all[n + i]? = some d' := fun i d' h => hall i d' (by
        simp only [loopsOf]
        rw [List.getElem?_append_left (List.getElem?_eq_some_iff.1 h).1]
        exact h)
      have hd : ∀ i d', (loopsOf (spineC j b).1)[i]? = some d' → all[n + nloops a + i]? = some d' := fun i d' h => by
        have := hall (nloops a + i) d' (by
          simp only [loopsOf]
          rw [List.getElem?_append_right (by rw [nloops_length]; omega), nloops_length, Nat.add_sub_cancel_left]
          exact h)
        rw [Nat.add_assoc]
        exact this
      have fin : ∀ x t, CodeCon P E S a s x t → (match x with
          | .normal => runJK E tk cs ls js (spineC j b).1 (n + nloops a) (m + 1 + nseqs a) t R k
          | e => k e t) = some z → ∃ x t, Spin P E S (spineC j b).2 (.seq a b) s x t ∧ k x t = some z := by
        intro x t h h'
        cases x with
        | normal =>
          obtain ⟨x', t', h1, h2⟩ := ih b _ _ t R k z hok.2 hd h'
          refine ⟨x', t', ?_, h2⟩
          cases x' with
          | normal =>
            intro w0 Rt B Ds I0 I L q w hW hs Q hQ
            refine wp_seq (h w0 Rt B Ds I0 I L q w hW hs _ fun I' L' a' w' hs' => ?_)
            exact h1 w0 Rt B Ds I0 I' L' a' w' hW hs' Q hQ
          | exit id => exact h.seq h1
          | ret => exact h.seq h1
        | exit id => exact ⟨.exit id, t, h.seq_out (by simp), h'⟩
        | ret => exact ⟨.ret, t, h.seq_out (by simp), h'⟩
      simp only [runJK] at e
      cases hj : joinAt js m with
      | none =>
        rw [hj] at e
        simp only at e
        obtain ⟨x, t, h, h'⟩ := runJK_sound hE hm hK hcs hls a _ _ s R _ z hok.1 hc e
        exact fin x t h h'
      | some ex =>
        rw [hj] at e
        simp only at e
        cases hr : runJK E tk cs ls js a n (m + 1) s (ExTy E tk ex) (fun e s' => leaveK E tk cs ex e s' some) with
        | none => rw [hr] at e; cases e
        | some y =>
          rw [hr] at e
          simp only [Option.bind_some] at e
          obtain ⟨x, t, h, h'⟩ := runJK_sound hE hm hK hcs hls a _ _ s _ _ y hok.1 hc hr
          obtain ⟨y', g0, g1, g2⟩ := leaveK_con hK (P := P) (S := S) h'
          injection g0 with g0
          subst g0
          rw [exK_eq] at e
          refine fin _ _ ?_ e
          rw [g1]
          exact h.post g2
    | _ =>
      intro n m s R k z _ _ e
      exact base _ n m s R k z (by simpa only [spineC] using e)

theorem Spin.post {T c : Code} {s t u : St} {x : AX} (h : Spin P E S T c s x t) (hr : May P E S t u) : Spin P E S T c s x u := by
  cases x with
  | normal =>
    intro w0 Rt B Ds I0 I L a w hW hs Q hQ
    refine h w0 Rt B Ds I0 I L a w hW hs Q fun I' L' a' w' h' => ?_
    obtain ⟨I2, L2, h2⟩ := hr w0 Rt B Ds I0 I' L' a' w' h'
    exact hQ I2 L2 a' w' h2
  | exit id => exact CodeCon.post h hr
  | ret => exact CodeCon.post h hr

/-- how the first piece is left -/
def headK (E : Env) (tk : List Nat) (cs : List (CallSpec E)) (ex : List (AX × List Slot)) : AX → St → Option (ExTy E tk ex)
  | .normal, s => leaveK E tk cs ex (.exit 99) s some
  | .exit _, _ => none
  | .ret, s => leaveK E tk cs ex .ret s some

/-- the first piece, as the printer gives it -/
theorem piece1 (hE : EnvOK P E) (hm : P.follows .mixedOrders = true) (hK : KindsOK E tk) {cs : List (CallSpec E)} (hcs : CallsOK P E S cs) {all : List Code} {ls : List (LoopSpec E tk)} (hls : LoopsOK P E S tk all ls) {js : Joins} {j i m : Nat} {c : Code} {head : List Slot} {ex : List (AX × List Slot)}
    (hok : codeOK (spineC j c).1 = true) (hin : ∀ q d, (loopsOf (spineC j c).1)[q]? = some d → all[i + q]? = some d) {x : StV E tk head} {y : ExTy E tk ex} (e : runJK E tk cs ls js (spineC j c).1 i m (encSlots E tk head x) (ExTy E tk ex) (headK E tk cs ex) = some y) :
    ((encEx E tk ex y).1 = .exit 99 ∧ Spin P E S (spineC j c).2 c (encSlots E tk head x) .normal (encEx E tk ex y).2) ∨ ((encEx E tk ex y).1 = .ret ∧ CodeCon P E S c (encSlots E tk head x) .ret (encEx E tk ex y).2) := by
  obtain ⟨z, s, hcode, e⟩ := spineC_sound hE hm hK hcs hls j c i m _ _ _ y hok hin e
  have out : ∀ z' : AX, leaveK E tk cs ex z' s some = some y → z' = (encEx E tk ex y).1 ∧ May P E S s (encEx E tk ex y).2 := by
    intro z' hl
    obtain ⟨y', h0, h1, h2⟩ := leaveK_con hK (P := P) (S := S) hl
    injection h0 with h0
    subst h0
    exact ⟨h1.symm, h2⟩
  cases z with
  | normal =>
    obtain ⟨h1, h2⟩ := out (.exit 99) e
    exact .inl ⟨h1.symm, hcode.post h2⟩
  | exit id => cases e
  | ret =>
    obtain ⟨h1, h2⟩ := out .ret e
    exact .inr ⟨h1.symm, CodeCon.post hcode h2⟩

/-- the last piece -/
theorem piece2 (hE : EnvOK P E) (hm : P.follows .mixedOrders = true) (hK : KindsOK E tk) {cs : List (CallSpec E)} (hcs : CallsOK P E S cs) {all : List Code} {ls : List (LoopSpec E tk)} (hls : LoopsOK P E S tk all ls) {js : Joins} {i : Nat} {c : Code} {head : List Slot} {ex : List (AX × List Slot)}
    (hok : codeOK c = true) (hin : ∀ q d, (loopsOf c)[q]? = some d → all[i + 1 + q]? = some d) {x : StV E tk head} {y : ExTy E tk ex} (e : loopBodyJK E tk cs ls js i c head ex (fun _ => none) x = some y) : CodeCon P E S c (encSlots E tk head x) (encEx E tk ex y).1 (encEx E tk ex y).2 := by
  unfold loopBodyJK at e
  obtain ⟨z, s, hcode, e⟩ := runJK_sound hE hm hK hcs hls c (i + 1) 0 _ _ _ y hok hin e
  have out : ∀ z' : AX, leaveK E tk cs ex z' s some = some y → z' = (encEx E tk ex y).1 ∧ May P E S s (encEx E tk ex y).2 := by
    intro z' hl
    obtain ⟨y', h0, h1, h2⟩ := leaveK_con hK (P := P) (S := S) hl
    injection h0 with h0
    subst h0
    exact ⟨h1.symm, h2⟩
  cases z with
  | normal =>
    simp only at e
    rw [HM.runK_eq (callKt_eq E cs)] at e
    cases hd : (decSlots E tk head s).run (callT E cs) s.rd with
    | none => rw [hd] at e; cases e
    | some q => rw [hd] at e; cases e
  | exit id =>
    obtain ⟨h1, h2⟩ := out (.exit id) e
    rw [← h1]
    exact hcode.post h2
  | ret =>
    obtain ⟨h1, h2⟩ := out .ret e
    rw [← h1]
    exact hcode.post h2

end
end Go.Eng

/-
  What slices.Insert and slices.Delete do: cells laid into a row (no program here).
-/
namespace Go.Eng
open Go

theorem heap_setCells {b : Nat} {T : TypeId} : ∀ (vs : List Value) (o : Nat) (w : World) (cs : Array Value), w.heap[b]? = some (.cells cs T (0, 0)) →
    (w.setCells b o vs).heap[b]? = some (.cells (wrAt cs o vs) T (0, 0)) ∧ (w.setCells b o vs).heap.size = w.heap.size ∧ (∀ k, k ≠ b → (w.setCells b o vs).heap[k]? = w.heap[k]?) ∧ IO w (w.setCells b o vs)
  | [], o, w, cs, h => ⟨h, rfl, fun _ _ => rfl, IO.refl w⟩
  | v :: r, o, w, cs, h => by
    obtain ⟨h1, h2, h3, h4⟩ := heap_setCells r (o + 1) (w.setCell ⟨b, o, none⟩ v) (cs.setIfInBounds o v) (heap_setCell_same w b o cs T v h)
    rw [World.setCells]
    refine ⟨h1, ?_, fun k hk => ?_, h4⟩
    · rw [h2]; simp [World.setCell]
    · rw [h3 k hk]
      exact heap_setCell_other w _ k v hk

theorem cell_isSome {w : World} {b o : Nat} {cs : Array Value} {T : TypeId} (h : w.heap[b]? = some (.cells cs T (0, 0))) (ho : o < cs.size) : (w.cell? ⟨b, o, none⟩).isSome = true := by
  rw [cell?_cells h, Array.getElem?_eq_getElem ho]; rfl

theorem frozen_no {w : World} {b o : Nat} {cs : Array Value} {T : TypeId} (h : w.heap[b]? = some (.cells cs T (0, 0))) : w.frozen? ⟨b, o, none⟩ = false := by simp [World.frozen?, h]

/-- elements made nothings, of however many cells -/
theorem run_clear_row {P : Program} (w : World) (t e ty : TypeId) (z : Value) (ht : P.underlying t = some (.slice e)) (hv : ∀ w, (zeroValue e).run P w = .ok z w) {b o n c : Nat} {cs : Array Value} {T : TypeId} (hh : w.heap[b]? = some (.cells cs T (0, 0)))
    (hs : o + n * z.cells.size ≤ cs.size) (h1 : ∀ v, v ∈ z.cells.toList → v.oneCell' = true) :
    (Builtin.clear_ #[t] ty #[.slice (some ⟨b, o, none⟩) n c]).run P w = .ok (.tuple #[]) (w.setCells b o (Builtin.zeroCells z.cells n).toList) := by
  have hl : (Builtin.zeroCells z.cells n).toList.length = n * z.cells.size := by simp [size_zeroCells]
  have hmem : ∀ v, v ∈ (Builtin.zeroCells z.cells n).toList → v.oneCell' = true := by
    intro v hv
    simp only [Builtin.zeroCells, Array.toList_map, List.mem_map] at hv
    obtain ⟨i, hi, rfl⟩ := hv
    have hi := Array.mem_range.1 (by simpa using hi)
    have hpos : 0 < z.cells.size := by
      apply Nat.pos_of_ne_zero
      intro h0
      rw [h0, Nat.mul_zero] at hi
      omega
    have hlt := Nat.mod_lt i hpos
    rw [getElem!_pos z.cells _ hlt]
    exact h1 _ (by simp)
  have hst := run_storeCells_cells (P := P) b o (Builtin.zeroCells z.cells n).toList 0 w (fun j hj => by
      rw [Nat.add_zero]
      exact cell_isSome hh (by rw [hl] at hj; omega)) (fun j hj => frozen_no hh) hmem
  simp only [Nat.add_zero] at hst
  cases n with
  | zero =>
    have : (Builtin.zeroCells z.cells 0).toList = [] := by simp [Builtin.zeroCells]
    rw [this]
    simp [Builtin.clear_, run_underlying ht, World.setCells]
  | succ n => simp [Builtin.clear_, run_underlying ht, hv, hst]

/-- elements copied, of however many cells -/
theorem run_copy_row {P : Program} (w : World) {t e ty : TypeId} {i : TypeInfo} {sz : Nat} (ht : P.underlying t = some (.slice e)) (hi : P.info? e = some i) (hsz : i.size = sz) {b o dLen dCap sLen sCap : Nat} {a : Addr} {G : List Value} {cs : Array Value} {T : TypeId} (hn : G.length = min sLen dLen * sz)
    (hsrc : ∀ (j : Nat) v, G[j]? = some v → w.cell? (a.add j) = some v) (hh : w.heap[b]? = some (.cells cs T (0, 0))) (hs : o + G.length ≤ cs.size) (h1 : ∀ v, v ∈ G → v.oneCell' = true) :
    (Builtin.copy_ #[t, t] ty #[.slice (some ⟨b, o, none⟩) dLen dCap, .slice (some a) sLen sCap]).run P w = .ok (goInt (min sLen dLen : Nat)) (w.setCells b o G) := by
  have hl := run_loadCells_list (P := P) w a G hsrc
  have hst := run_storeCells_cells (P := P) b o G 0 w (fun j hj => by rw [Nat.add_zero]; exact cell_isSome hh (by omega)) (fun j hj => frozen_no hh) h1
  simp only [Nat.add_zero] at hst
  rw [hn] at hl
  subst hsz
  simp [Builtin.copy_, run_underlying ht, sizeOf, typeInfo, hi, Builtin.lenOf, Builtin.firstCells, hl, hst, goInt]

/-- cells laid behind a slice: in place, or elsewhere -/
theorem append_post {P : Program} {w0 w1 : World} {t ty e : TypeId} {i : TypeInfo} {z : Value} (ht : P.underlying t = some (.slice e)) (hi : P.info? e = some i) (hz : i.zero = some z) (hsz : i.size = 1) (hby : i.bytes = 1) (hz1 : z.cells.size = 1) {n cap m : Nat} {ad : Option Addr} {F G : List Value} {T0 : TypeId}
    (hrow : RowAt w0 1 n ad cap F) (hw1 : w1 = w0.alloc (.cells G.toArray T0)) (hGl : G.length = m) (hm : 0 < m) (hG1 : ∀ v, v ∈ G → v.oneCell' = true) (hb : (n + m) * 2 ≤ 1099511627776) :
    ∃ v w2, (Builtin.append_ #[t, t] ty #[.slice ad n cap, .slice (some ⟨w0.heap.size, 0, none⟩) m m]).run P w1 = .ok v w2 ∧ RowPost2 w0 w2 1 (n + m) ad cap v (F ++ G) := by
  obtain ⟨hnc, hFl, hF1, hpl⟩ := hrow
  rw [Nat.mul_one] at hFl
  have hheap : w1.heap = w0.heap.push (.cells G.toArray T0 (0, 0)) := by rw [hw1]; rfl
  have hio : IO w0 w1 := by rw [hw1]; exact ⟨rfl, rfl, rfl⟩
  have hnew : w1.heap[w0.heap.size]? = some (.cells G.toArray T0 (0, 0)) := heap_push_new hheap
  have hsz1 : w1.heap.size = w0.heap.size + 1 := by rw [hheap]; simp
  have hRG : Reads w1 1 m (.slice (some ⟨w0.heap.size, 0, none⟩) m m) G := reads_at (u := .int .u8) (by simpa [Ty.size] using hGl) fun _ => ⟨w0.heap.size, 0, rfl, fun j v hj => by
    rw [cell?_cells hnew, Nat.zero_add]
    simpa using hj⟩
  have hFGl : (F ++ G).length = (n + m) * 1 := by rw [List.length_append, hFl, hGl, Nat.mul_one]
  by_cases hg : n + m ≤ cap
  · rcases hpl with h0 | ⟨b, off, cs, T, had, hh, hroom, hat⟩
    · omega
    rw [Nat.mul_one] at hroom
    have hlt : b < w0.heap.size := (Array.getElem?_eq_some_iff.1 hh).1
    have hh1 : w1.heap[b]? = some (.cells cs T (0, 0)) := (heap_push_old hheap b hlt).trans hh
    obtain ⟨w2, hst, hs2, hnew2, hoth, hio2⟩ := run_storeCells (P := P) (o := off + n) G 0 w1 cs hh1 (by rw [hGl]; omega) hG1
    refine ⟨.slice ad (n + m) cap, w2, run_append_in w1 ht hi hsz rfl rfl hRG (by rw [hGl, Nat.mul_one]) hg (fun q hq => ?_) (fun h => by rw [had] at h; cases h), hio.trans hio2, by rw [hs2, hsz1]; omega, hFGl, cap, hg, .inl ⟨b, off, cs, _, T, had, hh, rfl, Nat.le_refl _, by omega, hnew2, wrAt_size _ _ _, fun b' hb' hne => ?_, fun j x hj => ?_⟩⟩
    · rw [had] at hq
      injection hq with hq
      subst hq
      rw [Nat.mul_one, addr_add]
      exact hst
    · rw [hoth b' hne, heap_push_old hheap b' hb']
    · rw [Nat.add_zero]
      by_cases hjn : j < n
      · rw [wrAt_out _ _ _ _ (by omega)]
        rw [List.getElem?_append_left (by omega)] at hj
        exact hat j x hj
      · rw [List.getElem?_append_right (by omega), hFl] at hj
        obtain ⟨q, rfl⟩ := Nat.exists_eq_add_of_le (Nat.not_lt.1 hjn)
        rw [Nat.add_sub_cancel_left] at hj
        have hq := (List.getElem?_eq_some_iff.1 hj).1
        rw [show off + (n + q) = off + n + q from by omega, wrAt_in _ _ _ q hq (by omega)]
        exact hj
  · have hRF : Reads w1 1 n (.slice ad n cap) F := reads_at (u := .int .u8) (by simpa [Ty.size] using hFl) fun hn0 => by
      rcases hpl with h0 | ⟨b, off, cs, T, had, hh, hroom, hat⟩
      · omega
      · have hlt : b < w0.heap.size := (Array.getElem?_eq_some_iff.1 hh).1
        exact ⟨b, off, had, fun j v hj => by rw [cell?_cells ((heap_push_old hheap b hlt).trans hh)]; exact hat j v hj⟩
    obtain ⟨nc, w2, hrun, hnc2, hheap2, hio2⟩ := run_append_new (ty := ty) w1 ht hi hz hsz rfl rfl hRF (by rw [hFl, Nat.mul_one]) hRG (by rw [hGl, Nat.mul_one]) (by omega) (by rw [hby]; exact hb)
    refine ⟨_, w2, hrun, hio.trans hio2, by rw [hheap2]; simp; omega, hFGl, nc, hnc2, .inr ⟨w1.heap.size, _, e, by omega, heap_push_new hheap2, fun b' hb' => ?_, rfl, ?_, fun j x hj => ?_⟩⟩
    · rw [heap_push_old hheap2 b' (by omega), heap_push_old hheap b' hb']
    · rw [Nat.mul_one]
      have : z.cells.size = 1 := by
        have := hz1 
        exact this
      simp [size_zeroCells, hFl, hGl, this]
      omega
    · rw [← Array.getElem?_toList]
      simp only [Array.toList_append]
      exact (List.getElem?_append_left (List.getElem?_eq_some_iff.1 hj).1).trans hj

end Go.Eng
