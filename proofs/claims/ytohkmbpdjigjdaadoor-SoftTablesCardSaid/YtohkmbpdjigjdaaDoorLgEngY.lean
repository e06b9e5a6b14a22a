/-
  The abstract machine, part 24: functions and loops told as functions of plain data.
-/
import Derived.Test.YtohkmbpdjigjdaaDoorLgEngX
namespace Go.Eng

/-- a function that is known -/
structure CallSpec where
  f : FuncId
  ps : List Ty
  rs : List Slot
  g : Val (rowTy ps) → Option (Val (slotsTy rs))

/-- how a loop may be left, and what is known then -/
def ExTy : List (AX × List Slot) → Type
  | [] => Empty
  | [e] => Val (slotsTy e.2)
  | e :: e' :: r => Sum (Val (slotsTy e.2)) (ExTy (e' :: r))

def encEx : (ex : List (AX × List Slot)) → ExTy ex → AX × St
  | [], x => nomatch x
  | [e], x => (e.1, encSlots e.2 x)
  | e :: e' :: r, x => Sum.elim (fun y => (e.1, encSlots e.2 y)) (fun y => encEx (e' :: r) y) x

def exK {R : Type} (k : AX → St → Option R) : (ex : List (AX × List Slot)) → ExTy ex → Option R
  | [], _ => none
  | [e], x => k e.1 (encSlots e.2 x)
  | e :: e' :: r, x => Sum.elim (fun y => k e.1 (encSlots e.2 y)) (fun y => exK k (e' :: r) y) x

theorem exK_eq {R : Type} (k : AX → St → Option R) : ∀ (ex : List (AX × List Slot)) (x : ExTy ex), exK k ex x = k (encEx ex x).1 (encEx ex x).2
  | [], x => nomatch x
  | [e], x => rfl
  | e :: e' :: r, x => by
    cases x with
    | inl y => rfl
    | inr y => simp only [exK, encEx, Sum.elim_inr]; exact exK_eq k (e' :: r) y

structure LoopSpec where
  i : Nat
  head : List Slot
  ex : List (AX × List Slot)
  g : Val (slotsTy head) → Option (ExTy ex)

def callT (N : Names) : List CallSpec → CallF
  | [], _, _, _ => none
  | c :: r, f, as, n => match Nat.beq c.f f with
    | true => match decL N c.ps as with
      | some x => (c.g x).map fun y => (packA (encEnv c.rs n y), numb n (encHeap c.rs n y))
      | none => callT N r f as n
    | false => callT N r f as n

def callKt {R : Type} (N : Names) : List CallSpec → CallK R
  | [], _, _, _, _ => none
  | c :: r, f, as, n, k => match Nat.beq c.f f with
    | true => match decL N c.ps as with
      | some x => (c.g x).bind fun y => k (packA (encEnv c.rs n y)) (numb n (encHeap c.rs n y))
      | none => callKt N r f as n k
    | false => callKt N r f as n k

def loopT (N : Names) (call : CallF) : List LoopSpec → Nat → St → Option (AX × St)
  | [], _, _ => none
  | l :: r, i, s => match Nat.beq l.i i with
    | true => match (decSlots N l.head s).run call s.rd with
      | some (x, _) => (l.g x).map (encEx l.ex)
      | none => none
    | false => loopT N call r i s

def loopKt {R : Type} (N : Names) (callK : CallK R) : List LoopSpec → Nat → St → (AX → St → Option R) → Option R
  | [], _, _, _ => none
  | l :: r, i, s, k => match Nat.beq l.i i with
    | true => (decSlots N l.head s).runK callK s.rd [] fun x _ => (l.g x).bind fun y => exK k l.ex y
    | false => loopKt N callK r i s k

theorem callKt_eq {R : Type} (N : Names) : ∀ (cs : List CallSpec) (f : FuncId) (as : List AV) (n : Nat) (k : AV → List (Nat × Blk) → Option R), callKt N cs f as n k = (callT N cs f as n).bind fun p => k p.1 p.2
  | [], _, _, _, _ => rfl
  | c :: r, f, as, n, k => by
    simp only [callKt, callT]
    split
    · split
      · rename_i x _
        cases c.g x <;> rfl
      · exact callKt_eq N r f as n k
    · exact callKt_eq N r f as n k

theorem loopKt_eq {R : Type} (N : Names) (cs : List CallSpec) : ∀ (ls : List LoopSpec) (i : Nat) (s : St) (k : AX → St → Option R),
    loopKt N (callKt N cs) ls i s k = (loopT N (callT N cs) ls i s).bind fun p => k p.1 p.2
  | [], _, _, _ => rfl
  | l :: r, i, s, k => by
    simp only [loopKt, loopT]
    split
    · rw [HM.runK_eq (callKt_eq N cs)]
      cases (decSlots N l.head s).run (callT N cs) s.rd with
      | none => rfl
      | some p =>
        simp only [Option.bind_some]
        cases l.g p.1 with
        | none => rfl
        | some y => simp only [Option.bind_some, Option.map_some]; exact exK_eq k l.ex y
    · exact loopKt_eq N cs r i s k

/-- how a body leaves its loop -/
def leaveK {R : Type} (N : Names) (cs : List CallSpec) : (ex : List (AX × List Slot)) → AX → St → (ExTy ex → Option R) → Option R
  | [], _, _, _ => none
  | [e], x, s, k => match decide (e.1 = x) with
    | true => (decSlots N e.2 s).runK (callKt N cs) s.rd [] fun y _ => k y
    | false => none
  | e :: e' :: r, x, s, k => match decide (e.1 = x) with
    | true => (decSlots N e.2 s).runK (callKt N cs) s.rd [] fun y _ => k (Sum.inl y)
    | false => leaveK N cs (e' :: r) x s fun y => k (Sum.inr y)

def loopBodyK (E : Env) (cs : List CallSpec) (ls : List LoopSpec) (i : Nat) (body : Code) (head : List Slot) (ex : List (AX × List Slot)) (k : Val (slotsTy head) → Option (ExTy ex)) (x : Val (slotsTy head)) : Option (ExTy ex) :=
  runK E (callKt E.toNames cs) (loopKt E.toNames (callKt E.toNames cs) ls) (i + 1) body (encSlots head x) fun e s => match e with
    | .normal => (decSlots E.toNames head s).runK (callKt E.toNames cs) s.rd [] fun y _ => k y
    | e => leaveK E.toNames cs ex e s some

/-- what a function answers -/
def finA (E : Env) (fi : FnI) (rs : List Slot) (s : St) : HM (Val (slotsTy rs)) := (resA E s fi.results).bind fun l => decSlots E.toNames rs ⟨l, s.heap⟩

def funKA (E : Env) (cs : List CallSpec) (ls : List LoopSpec) (fi : FnI) (args : List AV) (rs : List Slot) : Option (Val (slotsTy rs)) :=
  runK E (callKt E.toNames cs) (loopKt E.toNames (callKt E.toNames cs) ls) 0 fi.body (entry fi args) fun e s => match e with
    | .exit _ => none
    | _ => (finA E fi rs s).runK (callKt E.toNames cs) s.rd [] fun y _ => some y

def funK (E : Env) (cs : List CallSpec) (ls : List LoopSpec) (fi : FnI) (ps : List Ty) (rs : List Slot) (x : Val (rowTy ps)) : Option (Val (slotsTy rs)) := funKA E cs ls fi (encL ps x) rs

/-- WHAT A FUNCTION ANSWERS, as plain data -/
def FCon (P : Program) (E : Env) (S : Nat → Addr) (f : FuncId) (ps : List Ty) (rs : List Slot) (x : Val (rowTy ps)) (y : Val (slotsTy rs)) : Prop :=
  ∀ b0, Con P E S f (encL ps x) b0 (packA (encEnv rs b0 y)) (encHeap rs b0 y)

section
variable {P : Program} {E : Env} {S : Nat → Addr}

def CallsOK (P : Program) (E : Env) (S : Nat → Addr) (cs : List CallSpec) : Prop := ∀ c, c ∈ cs → ∀ x y, c.g x = some y → FCon P E S c.f c.ps c.rs x y

def LoopsOK (P : Program) (E : Env) (S : Nat → Addr) (all : List Code) (ls : List LoopSpec) : Prop :=
  ∀ l, l ∈ ls → ∀ c, all[l.i]? = some c → ∀ x y, l.g x = some y → LoopCon P E S c (encSlots l.head x) (encEx l.ex y).1 (encEx l.ex y).2

theorem callT_con : ∀ {cs : List CallSpec}, CallsOK P E S cs → CallOK P E S (callT E.toNames cs)
  | [], _, f, as, n, r, wr, e => by cases e
  | c :: cs, h, f, as, n, r, wr, e => by
    have tl := callT_con (cs := cs) (fun d hd => h d (by simp [hd]))
    simp only [callT] at e
    split at e
    · rename_i hb
      have hb := Nat.eq_of_beq_eq_true hb
      subst hb
      split at e
      · rename_i x hx
        cases hg : c.g x with
        | none => rw [hg] at e; cases e
        | some y =>
          rw [hg] at e
          simp only [Option.map_some, Option.some.injEq, Prod.mk.injEq] at e
          obtain ⟨rfl, rfl⟩ := e
          exact ⟨_, rfl, (h c (by simp) x y hg n).args hx⟩
      · exact tl _ _ _ _ _ e
    · exact tl _ _ _ _ _ e

theorem loopT_con {all : List Code} {call : CallF} : ∀ {ls : List LoopSpec}, LoopsOK P E S all ls → ∀ i c s x t, all[i]? = some c → loopT E.toNames call ls i s = some (x, t) → CodeCon P E S (.loop c) s x t
  | [], _, i, c, s, x, t, _, e => by cases e
  | l :: ls, h, i, c, s, x, t, hc, e => by
    simp only [loopT] at e
    split at e
    · rename_i hb
      have hb := Nat.eq_of_beq_eq_true hb
      subst hb
      split at e
      · rename_i y rs hx
        cases hg : l.g y with
        | none => rw [hg] at e; cases e
        | some z =>
          rw [hg] at e
          simp only [Option.map_some, Option.some.injEq] at e
          have := h l (by simp) c hc y z hg
          rw [e] at this
          exact this.code.ref (decSlots_ref hx)
      · cases e
    · exact loopT_con (fun d hd => h d (by simp [hd])) i c s x t hc e

theorem leaveK_con {R : Type} {cs : List CallSpec} : ∀ {ex : List (AX × List Slot)} {x : AX} {s : St} {k : ExTy ex → Option R} {z : R}, leaveK E.toNames cs ex x s k = some z → ∃ y, k y = some z ∧ (encEx ex y).1 = x ∧ Ref P E S s (encEx ex y).2
  | [], x, s, k, z, e => by cases e
  | [e0], x, s, k, z, e => by
    simp only [leaveK] at e
    split at e
    · rename_i hd
      have hd := of_decide_eq_true hd
      rw [HM.runK_eq (callKt_eq E.toNames cs)] at e
      cases hr : (decSlots E.toNames e0.2 s).run (callT E.toNames cs) s.rd with
      | none => rw [hr] at e; cases e
      | some p =>
        obtain ⟨y, rs⟩ := p
        rw [hr] at e
        exact ⟨y, e, hd, decSlots_ref hr⟩
    · cases e
  | e0 :: e' :: r, x, s, k, z, e => by
    simp only [leaveK] at e
    split at e
    · rename_i hd
      have hd := of_decide_eq_true hd
      rw [HM.runK_eq (callKt_eq E.toNames cs)] at e
      cases hr : (decSlots E.toNames e0.2 s).run (callT E.toNames cs) s.rd with
      | none => rw [hr] at e; cases e
      | some p =>
        obtain ⟨y, rs⟩ := p
        rw [hr] at e
        exact ⟨Sum.inl y, e, hd, decSlots_ref hr⟩
    · obtain ⟨y, h1, h2, h3⟩ := leaveK_con (ex := e' :: r) e
      exact ⟨Sum.inr y, h1, h2, h3⟩

/-- A LOOP -/
theorem loop_spec (hE : EnvOK P E) (hm : P.follows .mixedOrders = true) {cs : List CallSpec} (hcs : CallsOK P E S cs) {all : List Code} {ls : List LoopSpec} (hls : LoopsOK P E S all ls) {i : Nat} {body : Code} {head : List Slot} {ex : List (AX × List Slot)}
    (hok : codeOK body = true) (hin : ∀ j d, (loopsOf body)[j]? = some d → all[i + 1 + j]? = some d) (g : Nat → Val (slotsTy head) → Option (ExTy ex)) (h0 : ∀ x, g 0 x = none) (hs : ∀ n x, g (n + 1) x = loopBodyK E cs ls i body head ex (g n) x) :
    ∀ n x y, g n x = some y → LoopCon P E S body (encSlots head x) (encEx ex y).1 (encEx ex y).2 := by
  intro n
  induction n with
  | zero => intro x y e; rw [h0] at e; cases e
  | succ n ih =>
    intro x y e
    rw [hs] at e
    unfold loopBodyK at e
    rw [runK_eq (callKt_eq E.toNames cs) (loopKt_eq E.toNames cs ls)] at e
    cases hr : run E (callT E.toNames cs) (loopT E.toNames (callT E.toNames cs) ls) (i + 1) body (encSlots head x) with
    | none => rw [hr] at e; cases e
    | some p =>
      obtain ⟨z, s⟩ := p
      rw [hr] at e
      simp only [Option.bind_some] at e
      have hcode := run_sound hE hm (callT_con hcs) (loopT_con (call := callT E.toNames cs) hls) body (i + 1) _ z s hok hin hr
      have hleave : ∀ z', z' ≠ AX.normal → z = z' → leaveK E.toNames cs ex z' s some = some y → LoopCon P E S body (encSlots head x) (encEx ex y).1 (encEx ex y).2 := by
        intro z' hne hz hl
        obtain ⟨y', h0, h1, h2⟩ := leaveK_con (P := P) (S := S) hl
        injection h0 with h0
        subst h0
        rw [h1, ← hz]
        exact .leave (hcode.post h2) (by rw [hz]; exact hne)
      cases z with
      | normal =>
        simp only at e
        rw [HM.runK_eq (callKt_eq E.toNames cs)] at e
        cases hd : (decSlots E.toNames head s).run (callT E.toNames cs) s.rd with
        | none => rw [hd] at e; cases e
        | some q =>
          obtain ⟨x', rs⟩ := q
          rw [hd] at e
          simp only [Option.bind_some] at e
          exact .again (hcode.post (decSlots_ref hd)) (ih x' y e)
      | exit id => exact hleave (.exit id) (by simp) rfl e
      | ret => exact hleave .ret (by simp) rfl e

/-- A FUNCTION -/
theorem fn_sound (hE : EnvOK P E) (hm : P.follows .mixedOrders = true) {call : CallF} (hC : CallOK P E S call) {loop : Nat → St → Option (AX × St)} {f : FuncId} {fi : FnI} (hf : E.fn f = some fi)
    (hok : codeOK fi.body = true) (hL : ∀ i c s x t, (loopsOf fi.body)[i]? = some c → loop i s = some (x, t) → CodeCon P E S (.loop c) s x t) {args : List AV} {x : AX} {t : St} (hx : ∀ id, x ≠ .exit id)
    (e : run E call loop 0 fi.body (entry fi args) = some (x, t)) {rs : List Slot} {y : Val (slotsTy rs)} {us : List Nat} (e' : (finA E fi rs t).run call t.rd = some (y, us)) : ∀ b0, Con P E S f args b0 (packA (encEnv rs b0 y)) (encHeap rs b0 y) := by
  intro b0 w I vs hW hI hargs
  obtain ⟨fn, hfn, hbody, hnt, hres, _⟩ := hE.fn f fi hf
  have hlen : args.length = vs.size := by
    have := hargs.length
    simpa using this.symm
  have hs0 : Sim ⟨P, E, S, w, I⟩ I noL (entry fi args) { tmps := vs ++ Array.replicate (fn.ntmps - vs.size) undef, defers := [] } w := by
    refine ⟨?_, rfl, fun id b hb => by simp [entry] at hb, fun id p hp => by simp [noL] at hp, fun id p hp => by simp [noL] at hp, fun id id' p p' hp => by simp [noL] at hp, hI, fun b hb => hb, fun b hb => .inl hb, fun b _ => rfl, Nat.le_refl _, IO.refl w⟩
    simp only [entry, Array.toList_append, Array.toList_replicate]
    refine hargs.append ?_
    rw [hlen, hnt]
    generalize fi.ntmps - vs.size = n
    induction n with
    | zero => simp [RepL]
    | succ n ih => simp only [List.replicate_succ, RepL]; exact ⟨_, _, rfl, by simp [Rep], ih⟩
  have hcode := run_sound hE hm hC hL fi.body 0 _ x t hok (fun i d h => by simpa using h) e
  refine calls_of_wp hfn hbody (hcode w I I noL _ w hW hs0 _ fun I' L' a' w' h' => ?_)
  unfold finA at e'
  obtain ⟨l, q1, q2, hl, eq, rfl⟩ := HM.run_bind e'
  unfold decSlots at eq
  obtain ⟨⟨env, ids⟩, r1, r2, e1, e2, rfl⟩ := HM.run_bind eq
  simp only at e2
  obtain ⟨us, hrun, hrep⟩ := resA_sound h' hE hW hl
  obtain ⟨g1, g2⟩ := expA_sound h' e1 hrep
  have hi : ∀ b, I' b → heldBy I' L' ids b := fun b hb => .inl hb
  have hrep2 := g2 (heldBy I' L' ids) hi (fun id hid p hp hv => .inr ⟨id, p, hid, hp, hv, rfl⟩)
  obtain ⟨used', src, pls, hk, hs⟩ := decE_kept (c := ⟨P, E, S, w, I⟩) h' hi (fun id hid p hp hv => .inr ⟨id, p, hid, hp, hv, rfl⟩) rs _ _ _ _ _ b0 e2 hrep2
  have hsrc : ∀ (b : Nat) (q : Pl), pls[b]? = some q → q.virt = false → ∃ id p, src[b]? = some (some id) ∧ id ∉ ids ∧ L' id = some p ∧ q.b = p.b ∧ p.virt = false ∧ ¬ I' p.b := by
    intro b q hq hv
    have hlt : b < src.length := by rw [← hk.len.1]; exact (List.getElem?_eq_some_iff.1 hq).1
    cases hsb : src[b]? with
    | none => rw [List.getElem?_eq_none_iff] at hsb; omega
    | some o =>
      cases o with
      | none =>
        obtain ⟨q', hq', hv'⟩ := hk.virt b hsb
        rw [hq] at hq'
        injection hq' with hq'
        subst hq'
        rw [hv] at hv'
        cases hv'
      | some id =>
        obtain ⟨h1, _, p, q', h2, h3, h4, h5, h6⟩ := hk.own b id hsb
        rw [hq] at h3
        injection h3 with h3
        subst h3
        have hpv : p.virt = false := by rw [← h5]; exact hv
        exact ⟨id, p, rfl, h1, h2, h4, hpv, h6 hpv⟩
  have hmap : (fn.results.mapM (resOne a'.tmps)).run P w' = .ok us.toArray w' := by
    have h0 := hrun
    rw [← hres] at h0
    rw [Array.mapM_eq_mapM_toList, Sem.run_map, h0]
    rfl
  have hpost : a'.defers = [] ∧ ∃ v, (results fn a'.tmps).run P w' = .ok v w' ∧ (IO w w' ∧ w.heap.size ≤ w'.heap.size ∧ (∀ b, b < w.heap.size → w'.heap[b]? = w.heap[b]?) ∧
      ∃ I'' : Nat → Prop, (∀ b, I b → I'' b) ∧ (∀ b, I'' b → I b ∨ w.heap.size ≤ b) ∧ (∀ b, I'' b → b < w'.heap.size) ∧ ∃ pls, Res (rcW (statOf E S) I'' w') w w' b0 (packA (encEnv rs b0 y)) (encHeap rs b0 y) v pls) := by
    refine ⟨h'.defers, if h : us.toArray.size = 1 then us.toArray[0] else .tuple us.toArray, ?_, h'.io, h'.grow, h'.same, heldBy I' L' ids, fun b hb => .inl (h'.i0 b hb), ?_, ?_, pls, ?_⟩
    · rw [results_eq]
      simp only [Sem.run_bind, hmap, Result.andThen_ok, Sem.run_pure]
    · intro b hb
      rcases hb with hb | ⟨id, p, _, hp, hv, rfl⟩
      · exact h'.iN b hb
      · exact .inr (h'.own id p hp hv).1
    · intro b hb
      rcases hb with hb | ⟨id, p, _, hp, hv, rfl⟩
      · exact h'.imm b hb
      · exact (h'.own id p hp hv).2
    · refine ⟨hk.len.1.trans hk.len.2, fun L2 ha => ?_, hk.blk, fun j q hq hv => ?_, fun i j p q hp hq hv hv' hb => ?_⟩
      · have hrep3 := hs L2 ha
        generalize encEnv rs b0 y = l' at hrep3
        cases l' with
        | nil =>
          simp only [RepL] at hrep3
          subst hrep3
          simp [packA, Rep, RepL]
        | cons y tl =>
          cases tl with
          | nil =>
            simp only [RepL] at hrep3
            obtain ⟨u, t0, rfl, hu, rfl⟩ := hrep3
            exact hu
          | cons z tl =>
            have hl2 := hrep3.length
            have : us.toArray.size ≠ 1 := by simp at hl2 ⊢; omega
            simp only [packA, Rep, dif_neg this]
            exact ⟨us.toArray, rfl, hrep3⟩
      · obtain ⟨id, p0, _, hid, hp0, hb0, hv0, hI0⟩ := hsrc j q hq hv
        have ho := h'.own id p0 hp0 hv0
        rw [hb0]
        refine ⟨ho.1, ho.2, fun hI => ?_⟩
        rcases hI with hI | ⟨id2, p2, hid2, hp2, hv2, hb2⟩
        · exact hI0 hI
        · have := h'.inj id id2 p0 p2 hp0 hp2 hv0 hv2 hb2
          rw [this] at hid
          exact hid hid2
      · obtain ⟨id, p0, hs0, _, hp0, hb0, hv0, _⟩ := hsrc i p hp hv
        obtain ⟨id', p0', hs0', _, hp0', hb0', hv0', _⟩ := hsrc j q hq hv'
        have := h'.inj id id' p0 p0' hp0 hp0' hv0 hv0' (by rw [← hb0, ← hb0']; exact hb)
        subst this
        exact hk.inj i j id hs0 hs0'
  cases x with
  | normal => exact hpost
  | ret => exact hpost
  | exit id => exact absurd rfl (hx id)

/-- A FUNCTION -/
theorem fun_specA (hE : EnvOK P E) (hm : P.follows .mixedOrders = true) {cs : List CallSpec} (hcs : CallsOK P E S cs) {f : FuncId} {fi : FnI} (hf : E.fn f = some fi) {ls : List LoopSpec} (hls : LoopsOK P E S (loopsOf fi.body) ls)
    (hok : codeOK fi.body = true) {args : List AV} {rs : List Slot} {y : Val (slotsTy rs)} (e : funKA E cs ls fi args rs = some y) : ∀ b0, Con P E S f args b0 (packA (encEnv rs b0 y)) (encHeap rs b0 y) := by
  unfold funKA at e
  rw [runK_eq (callKt_eq E.toNames cs) (loopKt_eq E.toNames cs ls)] at e
  cases hr : run E (callT E.toNames cs) (loopT E.toNames (callT E.toNames cs) ls) 0 fi.body (entry fi args) with
  | none => rw [hr] at e; cases e
  | some p =>
    obtain ⟨z, s⟩ := p
    rw [hr] at e
    simp only [Option.bind_some] at e
    have fin : (∀ id, z ≠ .exit id) → (finA E fi rs s).runK (callKt E.toNames cs) s.rd [] (fun y _ => some y) = some y → ∀ b0, Con P E S f args b0 (packA (encEnv rs b0 y)) (encHeap rs b0 y) := by
      intro hz e
      rw [HM.runK_eq (callKt_eq E.toNames cs)] at e
      cases hd : (finA E fi rs s).run (callT E.toNames cs) s.rd with
      | none => rw [hd] at e; cases e
      | some q =>
        obtain ⟨r, l⟩ := q
        rw [hd] at e
        simp only [Option.bind_some, Option.some.injEq] at e
        subst e
        exact fn_sound hE hm (callT_con hcs) hf hok (loopT_con (call := callT E.toNames cs) hls) hz hr hd
    cases z with
    | normal => exact fin (by simp) e
    | ret => exact fin (by simp) e
    | exit id => cases e

theorem fun_spec (hE : EnvOK P E) (hm : P.follows .mixedOrders = true) {cs : List CallSpec} (hcs : CallsOK P E S cs) {f : FuncId} {fi : FnI} (hf : E.fn f = some fi) {ls : List LoopSpec} (hls : LoopsOK P E S (loopsOf fi.body) ls)
    (hok : codeOK fi.body = true) {ps : List Ty} {rs : List Slot} {x : Val (rowTy ps)} {y : Val (slotsTy rs)} (e : funK E cs ls fi ps rs x = some y) : FCon P E S f ps rs x y :=
  fun_specA hE hm hcs hf hls hok e

/-- A FUNCTION OF ONE SLICE that asks whether that is nil -/
theorem nil_spec (hE : EnvOK P E) (hm : P.follows .mixedOrders = true) {f : FuncId} {fi : FnI} (hf : E.fn f = some fi) (hok : codeOK fi.body = true) {t : Ty} {l : List (Val t)} {rs : List Slot} {y : Val (slotsTy rs)}
    (h1 : funKA E [] [] fi [.nsl t l] rs = some y) (h2 : l = [] → funKA E [] [] fi [.v (.slice none 0 0)] rs = some y) : FCon P E S f [.sl t] rs (l, ()) y := by
  have hcs : CallsOK P E S [] := fun c h => by cases h
  have hls : LoopsOK P E S (loopsOf fi.body) [] := fun c h => by cases h
  intro b0 w I vs hW hI hargs
  simp only [encL, RepL] at hargs
  obtain ⟨v, tl, hvs, hv, rfl⟩ := hargs
  have hv' : RepT (rcW (statOf E S) I w) (.sl t) l [v] := hv
  obtain ⟨ad, cap, hs, hcap, hrow, hz⟩ := hv
  simp only [List.cons.injEq, and_true] at hs
  cases ad with
  | none =>
    have hc := hz rfl
    have hl : l = [] := by
      refine List.length_eq_zero_iff.1 ?_
      omega
    refine fun_specA hE hm hcs hf hls hok (h2 hl) b0 w I vs hW hI ?_
    rw [hvs]
    simp only [RepL, Rep]
    exact ⟨v, [], rfl, by rw [hs, hc, hl]; rfl, rfl⟩
  | some a =>
    refine fun_specA hE hm hcs hf hls hok h1 b0 w I vs hW hI ?_
    rw [hvs]
    simp only [RepL, Rep]
    exact ⟨v, [], rfl, ⟨hv', a, _, cap, hs⟩, rfl⟩

end
end Go.Eng
