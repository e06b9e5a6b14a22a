/-
  The abstract machine, part 24: functions and loops told as functions of plain data.
-/
import Derived.Test.YtnbpgehpjhifgaaDoorLxEngXb
namespace Go.Eng
open Go

/-- a function that is known: of objects and arguments, to objects and answers -/
structure CallSpec (E : Env) where
  f : FuncId
  ps : List Ty
  rs : List Slot
  g : Val (tabsTy E.kinds (E.ks f)) × Val (rowTy ps) → Option (StV E (E.ks f) rs)

/-- how a loop may be left, and what is known then -/
def ExTy (E : Env) (tk : List Nat) : List (AX × List Slot) → Type
  | [] => Empty
  | [e] => StV E tk e.2
  | e :: e' :: r => Sum (StV E tk e.2) (ExTy E tk (e' :: r))

def encEx (E : Env) (tk : List Nat) : (ex : List (AX × List Slot)) → ExTy E tk ex → AX × St
  | [], x => nomatch x
  | [e], x => (e.1, encSlots E tk e.2 x)
  | e :: e' :: r, x => Sum.elim (fun y => (e.1, encSlots E tk e.2 y)) (fun y => encEx E tk (e' :: r) y) x

def exK {R : Type} (E : Env) (tk : List Nat) (k : AX → St → Option R) : (ex : List (AX × List Slot)) → ExTy E tk ex → Option R
  | [], _ => none
  | [e], x => k e.1 (encSlots E tk e.2 x)
  | e :: e' :: r, x => Sum.elim (fun y => k e.1 (encSlots E tk e.2 y)) (fun y => exK E tk k (e' :: r) y) x

theorem exK_eq {R : Type} {E : Env} {tk : List Nat} (k : AX → St → Option R) : ∀ (ex : List (AX × List Slot)) (x : ExTy E tk ex), exK E tk k ex x = k (encEx E tk ex x).1 (encEx E tk ex x).2
  | [], x => nomatch x
  | [e], x => rfl
  | e :: e' :: r, x => by
    cases x with
    | inl y => rfl
    | inr y => simp only [exK, encEx, Sum.elim_inr]; exact exK_eq k (e' :: r) y

structure LoopSpec (E : Env) (tk : List Nat) where
  i : Nat
  head : List Slot
  ex : List (AX × List Slot)
  g : StV E tk head → Option (ExTy E tk ex)

/-- a kind's objects, as they are handed over -/
def tabB? (cs : List Cell) (b : Blk) : Option (List (Val (rowsTy cs))) := match b.ct with
  | .tab cs' l st gs => if h : cs' = cs then (match st.isEmpty && decide (gs = List.replicate ((ownQs cs' 1).length + 1) 0) && Nat.beq b.gen 0 && !b.frozen with
    | true => some (castR h l)
    | false => none) else none
  | _ => none

theorem tabB?_eq {cs : List Cell} {b : Blk} {l : List (Val (rowsTy cs))} (e : tabB? cs b = some l) : b = tabB cs l := by
  unfold tabB? at e
  split at e
  · rename_i cs' l' st gs hct
    split at e
    · rename_i hc
      subst hc
      cases hs : (st.isEmpty && decide (gs = List.replicate ((ownQs cs' 1).length + 1) 0) && Nat.beq b.gen 0 && !b.frozen) with
      | false => simp only [hs] at e; cases e
      | true =>
        simp only [hs] at e
        injection e with e
        simp only [Bool.and_eq_true, decide_eq_true_eq, Bool.not_eq_true'] at hs
        obtain ⟨⟨⟨h1, h2⟩, h3⟩, h4⟩ := hs
        have h1 : st = [] := by simpa using h1
        have h3 : b.gen = 0 := Nat.eq_of_beq_eq_true h3
        subst h1; subst h2
        have e : l' = l := e
        subst e
        obtain ⟨ct, gen, fz⟩ := b
        simp only at hct h3 h4
        rw [hct, h3, h4]
        rfl
    · cases e
  · cases e

def tabsB? (kinds : List (List Cell)) : (tk : List Nat) → List Blk → Option (Val (tabsTy kinds tk))
  | [], [] => some ()
  | k :: r, b :: bs => match tabB? (kinds.getD k []) b with
    | some l => match tabsB? kinds r bs with
      | some z => some (l, z)
      | none => none
    | none => none
  | _, _ => none

theorem tabsB?_eq {kinds : List (List Cell)} : ∀ {tk : List Nat} {bs : List Blk} {t : Val (tabsTy kinds tk)}, tabsB? kinds tk bs = some t → bs = encTabs kinds tk t
  | [], [], _, _ => rfl
  | [], _ :: _, _, e => by simp [tabsB?] at e
  | _ :: _, [], _, e => by simp [tabsB?] at e
  | k :: r, b :: bs, t, e => by
    simp only [tabsB?] at e
    split at e
    · rename_i l hl
      split at e
      · rename_i z hz
        injection e with e
        subst e
        simp only [encTabs]
        rw [tabB?_eq hl, tabsB?_eq hz]
      · cases e
    · cases e

def callT (E : Env) : List (CallSpec E) → CallF
  | [], _, _, _, _ => none
  | c :: r, f, as, bs, n => match Nat.beq c.f f with
    | true => match decL E.toNames c.ps as with
      | some x => match tabsB? E.kinds (E.ks c.f) bs with
        | some t => (c.g (t, x)).map fun y => (packA (encEnv c.rs n y.2), encTabs E.kinds (E.ks c.f) y.1, numb n (encHeap c.rs n y.2))
        | none => callT E r f as bs n
      | none => callT E r f as bs n
    | false => callT E r f as bs n

def callKt {R : Type} (E : Env) : List (CallSpec E) → CallK R
  | [], _, _, _, _, _ => none
  | c :: r, f, as, bs, n, k => match Nat.beq c.f f with
    | true => match decL E.toNames c.ps as with
      | some x => match tabsB? E.kinds (E.ks c.f) bs with
        | some t => (c.g (t, x)).bind fun y => k (packA (encEnv c.rs n y.2)) (encTabs E.kinds (E.ks c.f) y.1) (numb n (encHeap c.rs n y.2))
        | none => callKt E r f as bs n k
      | none => callKt E r f as bs n k
    | false => callKt E r f as bs n k

def loopT (E : Env) (tk : List Nat) (call : CallF) : List (LoopSpec E tk) → Nat → St → Option (AX × St)
  | [], _, _ => none
  | l :: r, i, s => match Nat.beq l.i i with
    | true => match (decSlots E tk l.head s).run call s.rd with
      | some (x, _) => (l.g x).map (encEx E tk l.ex)
      | none => none
    | false => loopT E tk call r i s

def loopKt {R : Type} (E : Env) (tk : List Nat) (callK : CallK R) : List (LoopSpec E tk) → Nat → St → (AX → St → Option R) → Option R
  | [], _, _, _ => none
  | l :: r, i, s, k => match Nat.beq l.i i with
    | true => (decSlots E tk l.head s).runK callK s.rd [] fun x _ => (l.g x).bind fun y => exK E tk k l.ex y
    | false => loopKt E tk callK r i s k

theorem callKt_eq {R : Type} (E : Env) : ∀ (cs : List (CallSpec E)) (f : FuncId) (as : List AV) (bs : List Blk) (n : Nat) (k : AV → List Blk → List (Nat × Blk) → Option R), callKt E cs f as bs n k = (callT E cs f as bs n).bind fun p => k p.1 p.2.1 p.2.2
  | [], _, _, _, _, _ => rfl
  | c :: r, f, as, bs, n, k => by
    simp only [callKt, callT]
    split
    · split
      · split
        · rename_i x _ _ t _
          cases c.g (t, x) <;> rfl
        · exact callKt_eq E r f as bs n k
      · exact callKt_eq E r f as bs n k
    · exact callKt_eq E r f as bs n k

theorem loopKt_eq {R : Type} (E : Env) (tk : List Nat) (cs : List (CallSpec E)) : ∀ (ls : List (LoopSpec E tk)) (i : Nat) (s : St) (k : AX → St → Option R),
    loopKt E tk (callKt E cs) ls i s k = (loopT E tk (callT E cs) ls i s).bind fun p => k p.1 p.2
  | [], _, _, _ => rfl
  | l :: r, i, s, k => by
    simp only [loopKt, loopT]
    split
    · rw [HM.runK_eq (callKt_eq E cs)]
      cases (decSlots E tk l.head s).run (callT E cs) s.rd with
      | none => rfl
      | some p =>
        simp only [Option.bind_some]
        cases l.g p.1 with
        | none => rfl
        | some y => simp only [Option.bind_some, Option.map_some]; exact exK_eq k l.ex y
    · exact loopKt_eq E tk cs r i s k

/-- how a body leaves its loop -/
def leaveK {R : Type} (E : Env) (tk : List Nat) (cs : List (CallSpec E)) : (ex : List (AX × List Slot)) → AX → St → (ExTy E tk ex → Option R) → Option R
  | [], _, _, _ => none
  | [e], x, s, k => match decide (e.1 = x) with
    | true => (decSlots E tk e.2 s).runK (callKt E cs) s.rd [] fun y _ => k y
    | false => none
  | e :: e' :: r, x, s, k => match decide (e.1 = x) with
    | true => (decSlots E tk e.2 s).runK (callKt E cs) s.rd [] fun y _ => k (Sum.inl y)
    | false => leaveK E tk cs (e' :: r) x s fun y => k (Sum.inr y)

/-- what a function answers -/
def finA (E : Env) (tk : List Nat) (fi : FnI) (rs : List Slot) (s : St) : HM (StV E tk rs) := (resA E s fi.results).bind fun l => decSlots E tk rs ⟨l, s.heap⟩

/-- a call's beginning -/
def entryT (E : Env) (tk : List Nat) (fi : FnI) (args : List AV) (bs : List Blk) : St := ⟨args ++ List.replicate (fi.ntmps - args.length) .top, entryH E tk bs⟩

/-- WHAT A FUNCTION ANSWERS, as plain data -/
def FCon (P : Program) (E : Env) (S : Ini) (f : FuncId) (ps : List Ty) (rs : List Slot) (x : Val (tabsTy E.kinds (E.ks f)) × Val (rowTy ps)) (y : StV E (E.ks f) rs) : Prop :=
  ∀ b0, Con P E S f (encL ps x.2) (encTabs E.kinds (E.ks f) x.1) b0 (packA (encEnv rs b0 y.2)) (encTabs E.kinds (E.ks f) y.1) (encHeap rs b0 y.2)

theorem encRowH_blk : ∀ {cs : List Cell} {x : Val (rowsTy cs)} {o : Option Blk}, o ∈ encRowH cs x → ∃ b, o = some b ∧ b.isTab = false
  | [], _, _, h => by cases h
  | .d t :: r, x, o, h => by simp only [encRowH] at h; exact encRowH_blk h
  | .sl t :: r, x, o, h => by
    simp only [encRowH, List.mem_cons] at h
    rcases h with rfl | h
    · exact ⟨_, rfl, rfl⟩
    · exact encRowH_blk h

theorem encHeap_blk : ∀ {sl : List Slot} {b0 : Nat} {x : Val (slotsTy sl)} {o : Option Blk}, o ∈ encHeap sl b0 x → ∃ b, o = some b ∧ b.isTab = false
  | [], _, _, _, h => by cases h
  | .dead :: r, b, x, o, h => encHeap_blk (sl := r) (b0 := b) h
  | .data t :: r, b, x, o, h => encHeap_blk (sl := r) (b0 := b) (x := x.2) h
  | .bor t k q :: r, b, x, o, h => encHeap_blk (sl := r) (b0 := b) (x := x.2) h
  | .sl t :: r, b, x, o, h => by
    simp only [encHeap, List.mem_cons] at h
    rcases h with rfl | h
    · exact ⟨_, rfl, rfl⟩
    · exact encHeap_blk h
  | .box cs :: r, b, x, o, h => by
    simp only [encHeap, List.mem_cons, List.mem_append] at h
    rcases h with rfl | h | h
    · exact ⟨_, rfl, rfl⟩
    · exact encRowH_blk h
    · exact encHeap_blk h
  | .ag cs :: r, b, x, o, h => by
    simp only [encHeap, List.mem_append] at h
    rcases h with h | h
    · exact encRowH_blk h
    · exact encHeap_blk h

section
variable {P : Program} {E : Env} {S : Ini} {tk : List Nat}

def CallsOK (P : Program) (E : Env) (S : Ini) (cs : List (CallSpec E)) : Prop := ∀ c, c ∈ cs → ∀ x y, c.g x = some y → FCon P E S c.f c.ps c.rs x y

def LoopsOK (P : Program) (E : Env) (S : Ini) (tk : List Nat) (all : List Code) (ls : List (LoopSpec E tk)) : Prop :=
  ∀ l, l ∈ ls → ∀ c, all[l.i]? = some c → ∀ x y, l.g x = some y → LoopCon P E S c (encSlots E tk l.head x) (encEx E tk l.ex y).1 (encEx E tk l.ex y).2

theorem callT_con : ∀ {cs : List (CallSpec E)}, CallsOK P E S cs → CallOK P E S (callT E cs)
  | [], _, f, as, bs, n, r, ts, wr, e => by cases e
  | c :: cs, h, f, as, bs, n, r, ts, wr, e => by
    have tl := callT_con (cs := cs) (fun d hd => h d (by simp [hd]))
    simp only [callT] at e
    split at e
    · rename_i hb
      have hb := Nat.eq_of_beq_eq_true hb
      subst hb
      split at e
      · rename_i x hx
        split at e
        · rename_i t ht
          have ht := tabsB?_eq ht
          subst ht
          cases hg : c.g (t, x) with
          | none => rw [hg] at e; cases e
          | some y =>
            rw [hg] at e
            simp only [Option.map_some, Option.some.injEq, Prod.mk.injEq] at e
            obtain ⟨rfl, rfl, rfl⟩ := e
            refine ⟨_, fun o ho => ?_, fun b hb => ?_, rfl, (h c (by simp) (t, x) y hg n).args hx⟩
            · obtain ⟨b, rfl, _⟩ := encHeap_blk ho
              rfl
            · obtain ⟨b', e, h'⟩ := encHeap_blk hb
              injection e with e
              rw [e]
              exact h'
        · exact tl _ _ _ _ _ _ _ e
      · exact tl _ _ _ _ _ _ _ e
    · exact tl _ _ _ _ _ _ _ e

theorem loopT_con (hK : KindsOK E tk) {all : List Code} {call : CallF} : ∀ {ls : List (LoopSpec E tk)}, LoopsOK P E S tk all ls → ∀ i c s x t, all[i]? = some c → loopT E tk call ls i s = some (x, t) → CodeCon P E S (.loop c) s x t
  | [], _, i, c, s, x, t, _, e => by cases e
  | l :: ls, h, i, c, s, x, t, hc, e => by
    simp only [loopT] at e
    split at e
    · rename_i hb
      have hb := Nat.eq_of_beq_eq_true hb
      subst hb
      split at e
      · rename_i y rs hx
        cases hg : l.g y with
        | none => rw [hg] at e; cases e
        | some z =>
          rw [hg] at e
          simp only [Option.map_some, Option.some.injEq] at e
          have := h l (by simp) c hc y z hg
          rw [e] at this
          exact this.code.ref (decSlots_ref hK hx)
      · cases e
    · exact loopT_con hK (fun d hd => h d (by simp [hd])) i c s x t hc e

theorem leaveK_con (hK : KindsOK E tk) {R : Type} {cs : List (CallSpec E)} : ∀ {ex : List (AX × List Slot)} {x : AX} {s : St} {k : ExTy E tk ex → Option R} {z : R}, leaveK E tk cs ex x s k = some z → ∃ y, k y = some z ∧ (encEx E tk ex y).1 = x ∧ May P E S s (encEx E tk ex y).2
  | [], x, s, k, z, e => by cases e
  | [e0], x, s, k, z, e => by
    simp only [leaveK] at e
    split at e
    · rename_i hd
      have hd := of_decide_eq_true hd
      rw [HM.runK_eq (callKt_eq E cs)] at e
      cases hr : (decSlots E tk e0.2 s).run (callT E cs) s.rd with
      | none => rw [hr] at e; cases e
      | some p =>
        obtain ⟨y, rs⟩ := p
        rw [hr] at e
        exact ⟨y, e, hd, decSlots_ref hK hr⟩
    · cases e
  | e0 :: e' :: r, x, s, k, z, e => by
    simp only [leaveK] at e
    split at e
    · rename_i hd
      have hd := of_decide_eq_true hd
      rw [HM.runK_eq (callKt_eq E cs)] at e
      cases hr : (decSlots E tk e0.2 s).run (callT E cs) s.rd with
      | none => rw [hr] at e; cases e
      | some p =>
        obtain ⟨y, rs⟩ := p
        rw [hr] at e
        exact ⟨Sum.inl y, e, hd, decSlots_ref hK hr⟩
    · obtain ⟨y, h1, h2, h3⟩ := leaveK_con hK (ex := e' :: r) e
      exact ⟨Sum.inr y, h1, h2, h3⟩

end

/-- where ways join (by the number of the sequence), and what is known there -/
abbrev Joins := List (Nat × List (AX × List Slot))

def joinAt : Joins → Nat → Option (List (AX × List Slot))
  | [], _ => none
  | p :: r, m => match Nat.beq p.1 m with
    | true => some p.2
    | false => joinAt r m

def nseqs : Code → Nat
  | .seq a b => nseqs a + nseqs b + 1
  | .cond _ a b => nseqs a + nseqs b
  | .block _ c => nseqs c
  | .scope c => nseqs c
  | _ => 0

def runJK (E : Env) (tk : List Nat) (cs : List (CallSpec E)) (ls : List (LoopSpec E tk)) (js : Joins) : Code → Nat → Nat → St → (R : Type) → (AX → St → Option R) → Option R
  | .skip, _, _, s, _, k => k .normal s
  | .region _ ops draw, _, _, s, _, k => regionK E (callKt E cs) ops.toList draw s k
  | .seq a b, n, m, s, R, k => match joinAt js m with
    | none => runJK E tk cs ls js a n (m + 1) s R fun e s' => match e with
      | .normal => runJK E tk cs ls js b (n + nloops a) (m + 1 + nseqs a) s' R k
      | e => k e s'
    | some ex => (runJK E tk cs ls js a n (m + 1) s (ExTy E tk ex) fun e s' => leaveK E tk cs ex e s' some).bind fun y => exK E tk (fun e s' => match e with
      | .normal => runJK E tk cs ls js b (n + nloops a) (m + 1 + nseqs a) s' R k
      | e => k e s') ex y
  | .cond c a b, n, m, s, R, k => match aeval s.env c with
    | .v (.bool t) => match c with
      | .tmp d => cond t (runJK E tk cs ls js a n m ⟨setB s.env d true, s.heap⟩ R k) (runJK E tk cs ls js b (n + nloops a) (m + nseqs a) ⟨setB s.env d false, s.heap⟩ R k)
      | _ => cond t (runJK E tk cs ls js a n m s R k) (runJK E tk cs ls js b (n + nloops a) (m + nseqs a) s R k)
    | _ => none
  | .block id c, n, m, s, R, k => runJK E tk cs ls js c n m s R fun e s' => match e with
    | .exit id' => if id' = id then k .normal s' else k (.exit id') s'
    | e => k e s'
  | .scope c, n, m, s, R, k => runJK E tk cs ls js c n m s R k
  | .label _, _, _, s, _, k => k .normal s
  | .loop _, n, _, s, _, k => loopKt E tk (callKt E cs) ls n s k
  | .exit id, _, _, s, _, k => k (.exit id) s
  | .ret, _, _, s, _, k => k .ret s
  | _, _, _, _, _, _ => none

def loopBodyJK (E : Env) (tk : List Nat) (cs : List (CallSpec E)) (ls : List (LoopSpec E tk)) (js : Joins) (i : Nat) (body : Code) (head : List Slot) (ex : List (AX × List Slot)) (k : StV E tk head → Option (ExTy E tk ex)) (x : StV E tk head) : Option (ExTy E tk ex) :=
  runJK E tk cs ls js body (i + 1) 0 (encSlots E tk head x) (ExTy E tk ex) fun e s => match e with
    | .normal => (decSlots E tk head s).runK (callKt E cs) s.rd [] fun y _ => k y
    | e => leaveK E tk cs ex e s some

/-- what comes at a function's end -/
def funEnd (E : Env) (tk : List Nat) (cs : List (CallSpec E)) (fi : FnI) (rs : List Slot) (e : AX) (s : St) : Option (StV E tk rs) := match e with
  | .exit _ => none
  | _ => (finA E tk fi rs s).runK (callKt E cs) s.rd [] fun y _ => some y

def funJKA (E : Env) (tk : List Nat) (cs : List (CallSpec E)) (ls : List (LoopSpec E tk)) (js : Joins) (fi : FnI) (args : List AV) (bs : List Blk) (rs : List Slot) : Option (StV E tk rs) :=
  runJK E tk cs ls js fi.body 0 0 (entryT E tk fi args bs) (StV E tk rs) (funEnd E tk cs fi rs)

def funJK (E : Env) (tk : List Nat) (cs : List (CallSpec E)) (ls : List (LoopSpec E tk)) (js : Joins) (fi : FnI) (ps : List Ty) (rs : List Slot) (x : Val (tabsTy E.kinds tk) × Val (rowTy ps)) : Option (StV E tk rs) := funJKA E tk cs ls js fi (encL ps x.2) (encTabs E.kinds tk x.1) rs

section
variable {P : Program} {E : Env} {S : Ini} {tk : List Nat}

theorem nloops_length : ∀ c : Code, (loopsOf c).length = nloops c := by
  intro c
  induction c with
  | seq a b iha ihb => simp [loopsOf, nloops, iha, ihb]
  | cond _ a b iha ihb => simp [loopsOf, nloops, iha, ihb]
  | block _ c ih => simpa [loopsOf, nloops] using ih
  | loop c ih => simp [loopsOf, nloops, ih]
  | scope c ih => simpa [loopsOf, nloops] using ih
  | _ => rfl

theorem CodeCon.seq {a b : Code} {s t u : St} {x : AX} (h : CodeCon P E S a s .normal t) (h' : CodeCon P E S b t x u) : CodeCon P E S (.seq a b) s x u := by
  intro w0 Rt B I0 I L q w hW hs Q hQ
  refine wp_seq (h w0 Rt B I0 I L q w hW hs _ fun I' L' a' w' hs' => ?_)
  exact h' w0 Rt B I0 I' L' a' w' hW hs' Q hQ

theorem CodeCon.seq_out {a b : Code} {s t : St} {x : AX} (hx : x ≠ .normal) (h : CodeCon P E S a s x t) : CodeCon P E S (.seq a b) s x t := by
  intro w0 Rt B I0 I L q w hW hs Q hQ
  refine wp_seq (h w0 Rt B I0 I L q w hW hs _ fun I' L' a' w' hs' => ?_)
  have := hQ I' L' a' w' hs'
  cases x with
  | normal => exact absurd rfl hx
  | exit id => exact this
  | ret => exact this

/-- CODE, with joins -/
theorem runJK_sound (hE : EnvOK P E) (hm : P.follows .mixedOrders = true) (hK : KindsOK E tk) {cs : List (CallSpec E)} (hcs : CallsOK P E S cs) {all : List Code} {ls : List (LoopSpec E tk)} (hls : LoopsOK P E S tk all ls) {js : Joins} :
    ∀ (c : Code) (n m : Nat) (s : St) (R : Type) (k : AX → St → Option R) (z : R), codeOK c = true → (∀ i d, (loopsOf c)[i]? = some d → all[n + i]? = some d) → runJK E tk cs ls js c n m s R k = some z → ∃ x t, CodeCon P E S c s x t ∧ k x t = some z := by
  intro c
  induction c with
  | skip =>
    intro n m s R k z _ _ e
    exact ⟨.normal, s, fun w0 Rt B I0 I L a w hW hs Q hQ => wp_skip (hQ I L a w hs), e⟩
  | region id ops draw =>
    intro n m s R k z hok _ e
    simp only [runJK] at e
    rw [regionK_eq (callKt_eq E cs)] at e
    cases hr : regionA E (callT E cs) ops.toList draw s with
    | none => rw [hr] at e; cases e
    | some p =>
      obtain ⟨x, t⟩ := p
      rw [hr] at e
      exact ⟨x, t, region_sound hE hm (callT_con hcs) hok hr, e⟩
  | seq c d ihc ihd =>
    intro n m s R k z hok hall e
    simp only [codeOK, Bool.and_eq_true] at hok
    have hc : ∀ i d', (loopsOf c)[i]? = some d' → all[n + i]? = some d' := fun i d' h => hall i d' (by
      simp only [loopsOf]
      rw [List.getElem?_append_left (List.getElem?_eq_some_iff.1 h).1]
      exact h)
    have hd : ∀ i d', (loopsOf d)[i]? = some d' → all[n + nloops c + i]? = some d' := fun i d' h => by
      have := hall (nloops c + i) d' (by
        simp only [loopsOf]
        rw [List.getElem?_append_right (by rw [nloops_length]; omega), nloops_length, Nat.add_sub_cancel_left]
        exact h)
      rw [Nat.add_assoc]
      exact this
    have fin : ∀ x t, CodeCon P E S c s x t → (match x with
        | .normal => runJK E tk cs ls js d (n + nloops c) (m + 1 + nseqs c) t R k
        | e => k e t) = some z → ∃ x t, CodeCon P E S (.seq c d) s x t ∧ k x t = some z := by
      intro x t h h'
      cases x with
      | normal =>
        obtain ⟨x', t', h1, h2⟩ := ihd _ _ t R k z hok.2 hd h'
        exact ⟨x', t', h.seq h1, h2⟩
      | exit id => exact ⟨.exit id, t, h.seq_out (by simp), h'⟩
      | ret => exact ⟨.ret, t, h.seq_out (by simp), h'⟩
    simp only [runJK] at e
    cases hj : joinAt js m with
    | none =>
      rw [hj] at e
      simp only at e
      obtain ⟨x, t, h, h'⟩ := ihc _ _ s R _ z hok.1 hc e
      exact fin x t h h'
    | some ex =>
      rw [hj] at e
      simp only at e
      cases hr : runJK E tk cs ls js c n (m + 1) s (ExTy E tk ex) (fun e s' => leaveK E tk cs ex e s' some) with
      | none => rw [hr] at e; cases e
      | some y =>
        rw [hr] at e
        simp only [Option.bind_some] at e
        obtain ⟨x, t, h, h'⟩ := ihc _ _ s _ _ y hok.1 hc hr
        obtain ⟨y', g0, g1, g2⟩ := leaveK_con hK (P := P) (S := S) h'
        injection g0 with g0
        subst g0
        rw [exK_eq] at e
        refine fin _ _ ?_ e
        rw [g1]
        exact h.post g2
  | cond q c d ihc ihd =>
    intro n m s R k z hok hall e
    simp only [codeOK, Bool.and_eq_true] at hok
    simp only [runJK] at e
    have hc : ∀ i d', (loopsOf c)[i]? = some d' → all[n + i]? = some d' := fun i d' h => hall i d' (by
      simp only [loopsOf]
      rw [List.getElem?_append_left (List.getElem?_eq_some_iff.1 h).1]
      exact h)
    have hd : ∀ i d', (loopsOf d)[i]? = some d' → all[n + nloops c + i]? = some d' := fun i d' h => by
      have := hall (nloops c + i) d' (by
        simp only [loopsOf]
        rw [List.getElem?_append_right (by rw [nloops_length]; omega), nloops_length, Nat.add_sub_cancel_left]
        exact h)
      rw [Nat.add_assoc]
      exact this
    split at e
    · rename_i tb hav
      have fin : cond tb (runJK E tk cs ls js c n m s R k) (runJK E tk cs ls js d (n + nloops c) (m + nseqs c) s R k) = some z → ∃ x t, CodeCon P E S (.cond q c d) s x t ∧ k x t = some z := by
        intro e
        cases tb with
        | true =>
          simp only [cond_true] at e
          obtain ⟨x, t, h, h'⟩ := ihc _ _ s R k z hok.1 hc e
          refine ⟨x, t, fun w0 Rt B I0 I L a w hW hs Q hQ => ?_, h'⟩
          have hq := hs.eval q
          rw [hav] at hq
          simp only [Rep] at hq
          exact wp_cond_true hq (h w0 Rt B I0 I L a w hW hs Q hQ)
        | false =>
          simp only [cond_false] at e
          obtain ⟨x, t, h, h'⟩ := ihd _ _ s R k z hok.2 hd e
          refine ⟨x, t, fun w0 Rt B I0 I L a w hW hs Q hQ => ?_, h'⟩
          have hq := hs.eval q
          rw [hav] at hq
          simp only [Rep] at hq
          exact wp_cond_false hq (h w0 Rt B I0 I L a w hW hs Q hQ)
      split at e
      · rename_i d
        have hq' : s.env.getD d .top = .v (.bool tb) := hav
        refine fin ?_
        cases tb
        · simp only [cond_false] at e ⊢; rw [setB_self hq'] at e; exact e
        · simp only [cond_true] at e ⊢; rw [setB_self hq'] at e; exact e
      · exact fin e
    · cases e
  | block id c ih =>
    intro n m s R k z hok hall e
    simp only [codeOK] at hok
    simp only [runJK] at e
    obtain ⟨x, t, h, h'⟩ := ih _ _ s R _ z hok hall e
    cases x with
    | normal =>
      refine ⟨.normal, t, fun w0 Rt B I0 I L a w hW hs Q hQ => ?_, h'⟩
      exact wp_block (h w0 Rt B I0 I L a w hW hs _ fun I' L' a' w' hs' => hQ I' L' a' w' hs')
    | exit id' =>
      simp only at h'
      by_cases hi : id' = id
      · rw [if_pos hi] at h'
        refine ⟨.normal, t, fun w0 Rt B I0 I L a w hW hs Q hQ => ?_, h'⟩
        refine wp_block (h w0 Rt B I0 I L a w hW hs _ fun I' L' a' w' hs' => ?_)
        simp only [AX.toExit, Exit.inBlock]
        rw [if_pos hi]
        exact hQ I' L' a' w' hs'
      · rw [if_neg hi] at h'
        refine ⟨.exit id', t, fun w0 Rt B I0 I L a w hW hs Q hQ => ?_, h'⟩
        refine wp_block (h w0 Rt B I0 I L a w hW hs _ fun I' L' a' w' hs' => ?_)
        simp only [AX.toExit, Exit.inBlock]
        rw [if_neg hi]
        exact hQ I' L' a' w' hs'
    | ret =>
      refine ⟨.ret, t, fun w0 Rt B I0 I L a w hW hs Q hQ => ?_, h'⟩
      exact wp_block (h w0 Rt B I0 I L a w hW hs _ fun I' L' a' w' hs' => hQ I' L' a' w' hs')
  | scope c ih =>
    intro n m s R k z hok hall e
    simp only [codeOK] at hok
    simp only [runJK] at e
    obtain ⟨x, t, h, h'⟩ := ih _ _ s R k z hok hall e
    refine ⟨x, t, fun w0 Rt B I0 I L a w hW hs Q hQ => ?_, h'⟩
    refine wp_scope_straight (h w0 Rt B I0 I L a w hW hs _ fun I' L' a' w' hs' => ?_)
    have := hQ I' L' a' w' hs'
    cases x <;> exact this
  | label l =>
    intro n m s R k z _ _ e
    exact ⟨.normal, s, fun w0 Rt B I0 I L a w hW hs Q hQ => wp_label (hQ I L a w hs), e⟩
  | loop c _ =>
    intro n m s R k z _ hall e
    simp only [runJK] at e
    rw [loopKt_eq E tk cs] at e
    cases hr : loopT E tk (callT E cs) ls n s with
    | none => rw [hr] at e; cases e
    | some p =>
      obtain ⟨x, t⟩ := p
      rw [hr] at e
      exact ⟨x, t, loopT_con hK (call := callT E cs) hls n c s x t (by have := hall 0 c rfl; simpa using this) hr, e⟩
  | exit id =>
    intro n m s R k z _ _ e
    exact ⟨.exit id, s, fun w0 Rt B I0 I L a w hW hs Q hQ => wp_exit (hQ I L a w hs), e⟩
  | ret =>
    intro n m s R k z _ _ e
    exact ⟨.ret, s, fun w0 Rt B I0 I L a w hW hs Q hQ => wp_ret (hQ I L a w hs), e⟩
  | _ => intro n m s R k z _ _ e; simp only [runJK] at e; cases e

/-- A LOOP -/
theorem loop_specJ (hE : EnvOK P E) (hm : P.follows .mixedOrders = true) (hK : KindsOK E tk) {cs : List (CallSpec E)} (hcs : CallsOK P E S cs) {all : List Code} {ls : List (LoopSpec E tk)} (hls : LoopsOK P E S tk all ls) {js : Joins} {i : Nat} {body : Code} {head : List Slot} {ex : List (AX × List Slot)}
    (hok : codeOK body = true) (hin : ∀ j d, (loopsOf body)[j]? = some d → all[i + 1 + j]? = some d) (g : Nat → StV E tk head → Option (ExTy E tk ex)) (h0 : ∀ x, g 0 x = none) (hs : ∀ n x, g (n + 1) x = loopBodyJK E tk cs ls js i body head ex (g n) x) :
    ∀ n x y, g n x = some y → LoopCon P E S body (encSlots E tk head x) (encEx E tk ex y).1 (encEx E tk ex y).2 := by
  intro n
  induction n with
  | zero => intro x y e; rw [h0] at e; cases e
  | succ n ih =>
    intro x y e
    rw [hs] at e
    unfold loopBodyJK at e
    obtain ⟨z, s, hcode, e⟩ := runJK_sound hE hm hK hcs hls body (i + 1) 0 _ _ _ y hok hin e
    have hleave : ∀ z', z' ≠ AX.normal → z = z' → leaveK E tk cs ex z' s some = some y → LoopCon P E S body (encSlots E tk head x) (encEx E tk ex y).1 (encEx E tk ex y).2 := by
      intro z' hne hz hl
      obtain ⟨y', h0, h1, h2⟩ := leaveK_con hK (P := P) (S := S) hl
      injection h0 with h0
      subst h0
      rw [h1, ← hz]
      exact .leave (hcode.post h2) (by rw [hz]; exact hne)
    cases z with
    | normal =>
      simp only at e
      rw [HM.runK_eq (callKt_eq E cs)] at e
      cases hd : (decSlots E tk head s).run (callT E cs) s.rd with
      | none => rw [hd] at e; cases e
      | some q =>
        obtain ⟨x', rs⟩ := q
        rw [hd] at e
        simp only [Option.bind_some] at e
        exact .again (hcode.post (decSlots_ref hK hd)) (ih x' y e)
    | exit id => exact hleave (.exit id) (by simp) rfl e
    | ret => exact hleave .ret (by simp) rfl e

/-- A FUNCTION, by what its code comes to -/
theorem fn_soundC (hE : EnvOK P E) {call : CallF} {f : FuncId} {fi : FnI} (hf : E.fn f = some fi)
    {args : List AV} {bs : List Blk} {x : AX} {t : St} (hx : ∀ id, x ≠ .exit id)
    (hcode : CodeCon P E S fi.body (entryT E (E.ks f) fi args bs) x t) {rs : List Slot} {y : StV E (E.ks f) rs} {us : List Nat} (e' : (finA E (E.ks f) fi rs t).run call t.rd = some (y, us)) :
    ∀ b0, Con P E S f args bs b0 (packA (encEnv rs b0 y.2)) (encTabs E.kinds (E.ks f) y.1) (encHeap rs b0 y.2) := by
  intro b0 w I L Rt B vs hW hb0 hs
  obtain ⟨fn, hfn, hbody, hnt, hres, _⟩ := hE.fn f fi hf
  have hlen : args.length = vs.size := by
    have := hs.env.length
    simpa using this.symm
  have hs0 : Sim ⟨P, E, S, w, I, Rt, B⟩ I L (entryT E (E.ks f) fi args bs) { tmps := vs ++ Array.replicate (fn.ntmps - vs.size) undef, defers := [] } w := by
    refine ⟨?_, rfl, hs.blk, hs.dom, hs.own, hs.inj, hs.imm, hs.i0, hs.iN, hs.same, hs.fix, hs.bx, hs.grow, hs.io⟩
    simp only [entryT, Array.toList_append, Array.toList_replicate]
    refine hs.env.append ?_
    rw [hlen, hnt]
    generalize fi.ntmps - vs.size = n
    induction n with
    | zero => simp [RepL]
    | succ n ih => simp only [List.replicate_succ, RepL]; exact ⟨_, _, rfl, by simp [Rep], ih⟩
  refine calls_of_wp hfn hbody (hcode w Rt B I I L _ w hW hs0 _ fun I' L' a' w' h' => ?_)
  unfold finA at e'
  obtain ⟨l, q1, q2, hl, eq, rfl⟩ := HM.run_bind e'
  obtain ⟨us, hrun, hrep⟩ := resA_sound h' hE hW hl
  have h2 : Sim ⟨P, E, S, w, I, Rt, B⟩ I' L' ⟨l, t.heap⟩ { tmps := us.toArray, defers := [] } w' :=
    ⟨hrep, rfl, h'.blk, h'.dom, h'.own, h'.inj, h'.imm, h'.i0, h'.iN, h'.same, h'.fix, h'.bx, h'.grow, h'.io⟩
  obtain ⟨hnd, hlt⟩ := hE.ks f
  obtain ⟨I2, L2, h3⟩ := dec_sim h2 hb0 hnd hlt eq
  have hmap : (fn.results.mapM (resOne a'.tmps)).run P w' = .ok us.toArray w' := by
    have h0 := hrun
    rw [← hres] at h0
    rw [Array.mapM_eq_mapM_toList, Sem.run_map, h0]
    rfl
  have hpost : a'.defers = [] ∧ ∃ v, (results fn a'.tmps).run P w' = .ok v w' ∧ ∃ I' L', Sim ⟨P, E, S, w, I, Rt, B⟩ I' L' ⟨[packA (encEnv rs b0 y.2)], outH E (E.ks f) (encTabs E.kinds (E.ks f) y.1) b0 (encHeap rs b0 y.2)⟩ { tmps := #[v], defers := [] } w' := by
    refine ⟨h'.defers, if h : us.toArray.size = 1 then us.toArray[0] else .tuple us.toArray, ?_, I2, L2, ?_, rfl, h3.blk, h3.dom, h3.own, h3.inj, h3.imm, h3.i0, h3.iN, h3.same, h3.fix, h3.bx, h3.grow, h3.io⟩
    · rw [results_eq]
      simp only [Sem.run_bind, hmap, Result.andThen_ok, Sem.run_pure]
    · have hrep3 := h3.env
      simp only [encAt] at hrep3
      generalize encEnv rs b0 y.2 = l' at hrep3
      simp only [RepL]
      refine ⟨_, [], rfl, ?_, rfl⟩
      cases l' with
      | nil =>
        simp only [RepL] at hrep3
        have hrep3 : us = [] := hrep3
        subst hrep3
        simp [packA, Rep, RepL]
      | cons y tl =>
        cases tl with
        | nil =>
          simp only [RepL] at hrep3
          obtain ⟨u, t0, hu0, hu, rfl⟩ := hrep3
          have hu0 : us = [u] := hu0
          subst hu0
          exact hu
        | cons z tl =>
          have hl2 := hrep3.length
          have : us.toArray.size ≠ 1 := by simp at hl2 ⊢; omega
          simp only [packA, Rep, dif_neg this]
          exact ⟨us.toArray, rfl, hrep3⟩
  cases x with
  | normal => exact hpost
  | ret => exact hpost
  | exit id => exact absurd rfl (hx id)

/-- A FUNCTION -/
theorem fun_specA (hE : EnvOK P E) (hm : P.follows .mixedOrders = true) {cs : List (CallSpec E)} (hcs : CallsOK P E S cs) {f : FuncId} {fi : FnI} (hf : E.fn f = some fi) {ls : List (LoopSpec E (E.ks f))} (hls : LoopsOK P E S (E.ks f) (loopsOf fi.body) ls) {js : Joins}
    (hok : codeOK fi.body = true) {args : List AV} {bs : List Blk} {rs : List Slot} {y : StV E (E.ks f) rs} (e : funJKA E (E.ks f) cs ls js fi args bs rs = some y) :
    ∀ b0, Con P E S f args bs b0 (packA (encEnv rs b0 y.2)) (encTabs E.kinds (E.ks f) y.1) (encHeap rs b0 y.2) := by
  unfold funJKA at e
  obtain ⟨z, s, hcode, e⟩ := runJK_sound hE hm (hE.ks f) hcs hls fi.body 0 0 _ _ _ y hok (fun i d h => by simpa using h) e
  have fin : (∀ id, z ≠ .exit id) → (finA E (E.ks f) fi rs s).runK (callKt E cs) s.rd [] (fun y _ => some y) = some y → ∀ b0, Con P E S f args bs b0 (packA (encEnv rs b0 y.2)) (encTabs E.kinds (E.ks f) y.1) (encHeap rs b0 y.2) := by
    intro hz e
    rw [HM.runK_eq (callKt_eq E cs)] at e
    cases hd : (finA E (E.ks f) fi rs s).run (callT E cs) s.rd with
    | none => rw [hd] at e; cases e
    | some q =>
      obtain ⟨r, l⟩ := q
      rw [hd] at e
      simp only [Option.bind_some, Option.some.injEq] at e
      subst e
      exact fn_soundC hE hf hz hcode hd
  cases z with
  | normal => exact fin (by simp) e
  | ret => exact fin (by simp) e
  | exit id => cases e

theorem fun_specJ (hE : EnvOK P E) (hm : P.follows .mixedOrders = true) {cs : List (CallSpec E)} (hcs : CallsOK P E S cs) {f : FuncId} {fi : FnI} (hf : E.fn f = some fi) {ls : List (LoopSpec E (E.ks f))} (hls : LoopsOK P E S (E.ks f) (loopsOf fi.body) ls) {js : Joins}
    (hok : codeOK fi.body = true) {ps : List Ty} {rs : List Slot} {x : Val (tabsTy E.kinds (E.ks f)) × Val (rowTy ps)} {y : StV E (E.ks f) rs} (e : funJK E (E.ks f) cs ls js fi ps rs x = some y) : FCon P E S f ps rs x y :=
  fun_specA hE hm hcs hf hls hok e

end
end Go.Eng
