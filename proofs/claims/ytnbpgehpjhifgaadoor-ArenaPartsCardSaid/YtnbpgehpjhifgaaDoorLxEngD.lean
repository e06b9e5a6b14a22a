/-
  The abstract machine, part 4: when an abstract state stands for a machine's; how a world may go on.
-/
import Derived.Test.YtnbpgehpjhifgaaDoorLxEngC
namespace Go.Eng

/-- what is so from the beginning: where the error lies that a variable holds; which blocks stay as they are -/
structure Ini where
  a : Nat → Addr
  G : Nat → Prop

structure Ctx where
  P : Program
  E : Env
  S : Ini
  w0 : World
  I0 : Nat → Prop
  Rt : Nat → Prop      -- the blocks of before that may be changed
  B : Nat → Nat → Option Pl   -- where the objects of before lie

/-- the program's errors, by the table of its listed variables -/
def statOf (E : Env) (S : Ini) : Stat := ⟨S.a, E.toNames, fun g => E.glob g = some [.er (.s g)]⟩
def rcW (T : Stat) (I : Nat → Prop) (L : Ref → Option Pl) (w : World) : RC := ⟨fun b o => w.cell? ⟨b, o, none⟩, I, T, hOf L⟩
def Ctx.rc (c : Ctx) (I : Nat → Prop) (L : Ref → Option Pl) (w : World) : RC := rcW (statOf c.E c.S) I L w

abbrev noL : Ref → Option Pl := fun _ => none

def BlkOK (R : RC) (L : Ref → Option Pl) (w : World) (p : Pl) (b : Blk) : Prop :=
  p.gen = b.gen ∧ match b.ct with
  | .box row => p.virt = false ∧ p.o = 0 ∧ ∃ cs T, w.heap[p.b]? = some (.cells cs T (0, 0)) ∧ RepL R L row cs.toList
  | .sl t l => (p.virt = true ∧ l = [] ∧ p.w = t.size) ∨ (p.virt = false ∧ p.w = t.size ∧ ∃ cs T, w.heap[p.b]? = some (.cells cs T (0, 0)) ∧ cs.size = p.size ∧ p.o + l.length * p.w ≤ p.size ∧
      ∀ i, i < l.length → ∃ d, RepT R t (l.getD i (dfl t)) d ∧ At R d p.b (p.o + i * p.w))
  | .tab _ _ _ _ => p.virt = true

/-- is it a block of objects? -/
def Blk.isTab (b : Blk) : Bool := match b.ct with
  | .tab _ _ _ _ => true
  | _ => false

/-- an object's block, where there is one: that of its variable; of a slice of its own -/
def viewV (k i : Nat) (cs : List Cell) (x : Val (rowsTy cs)) (st : List (Nat × Nat)) (gs : List Nat) : Nat → Option Blk
  | 0 => some { ct := .box (rowO k i (fun q => decide ((q, i) ∈ st)) gs cs 1 x), gen := 0, frozen := false }
  | q + 1 => match slO (q + 1) cs 1 x with
    | some ⟨t, y⟩ => some (if (q + 1, i) ∈ st then { ct := .sl t [], gen := gs.getD (q + 1) 0 + 1, frozen := false } else { ct := .sl t y, gen := gs.getD (q + 1) 0, frozen := false })
    | none => none

/-- the blocks that there are -/
def rdv (h : List (Option Blk)) : Ref → Option Blk
  | .l id => match h[id]? with
    | some b => b
    | none => none
  | .o k i q => match h[k]? with
    | some (some b) => match b.ct with
      | .tab cs l st gs => if i < l.length then viewV k i cs (l.getD i (dfl (rowsTy cs))) st gs q else none
      | _ => none
    | _ => none

/-- nothing is said to the world outside -/
def IO (w w' : World) : Prop := w'.os = w.os ∧ w'.tape = w.tape ∧ w'.output = w.output

theorem IO.refl (w : World) : IO w w := ⟨rfl, rfl, rfl⟩
theorem IO.trans {a b c : World} (h : IO a b) (k : IO b c) : IO a c := ⟨k.1.trans h.1, k.2.1.trans h.2.1, k.2.2.trans h.2.2⟩

structure Sim (c : Ctx) (I : Nat → Prop) (L : Ref → Option Pl) (s : St) (a : Act) (w : World) : Prop where
  env : RepL (c.rc I L w) L s.env a.tmps.toList
  defers : a.defers = []
  blk : ∀ r b, rdv s.heap r = some b → ∃ p, L r = some p ∧ BlkOK (c.rc I L w) L w p b ∧ (b.frozen = false → p.virt = false → ¬ I p.b)
  dom : ∀ r p, L r = some p → ∃ b, rdv s.heap r = some b
  own : ∀ r p, L r = some p → p.virt = false → (c.w0.heap.size ≤ p.b ∨ c.Rt p.b) ∧ p.b < w.heap.size
  inj : ∀ r r' p p', L r = some p → L r' = some p' → p.virt = false → p'.virt = false → p.b = p'.b → r = r'
  imm : ∀ b, I b → b < w.heap.size
  i0 : ∀ b, c.I0 b → I b
  iN : ∀ b, I b → c.I0 b ∨ c.w0.heap.size ≤ b ∨ c.Rt b
  same : ∀ b, b < c.w0.heap.size → ¬ c.Rt b → w.heap[b]? = c.w0.heap[b]?
  fix : ∀ b, c.S.G b → b < c.w0.heap.size ∧ ¬ c.Rt b
  bx : ∀ k i p, c.B k i = some p → L (.o k i 0) = some p
  grow : c.w0.heap.size ≤ w.heap.size
  io : IO c.w0 w

theorem rdH_l (h : List (Option Blk)) (id : Nat) : rdH h (.l id) = rdv h (.l id) := rfl

theorem rdv_l {h : List (Option Blk)} {id : Nat} {b : Blk} : rdv h (.l id) = some b ↔ h[id]? = some (some b) := by
  simp only [rdv]
  split
  · rename_i x hx
    rw [hx]
    simp
  · rename_i hx
    rw [hx]
    simp

theorem stale_mem {st : List (Nat × Nat)} {q i : Nat} (h : (q, i) ∈ st) : stale st q = true := by
  unfold stale
  rw [List.any_eq_true]
  exact ⟨(q, i), h, Nat.beq_refl q⟩

theorem rowO_weak {R : RC} {L : Ref → Option Pl} {k i : Nat} {st st' : Nat → Bool} {gs : List Nat} (hs : ∀ q, st q = true → st' q = true) : ∀ {cs : List Cell} {q : Nat} {x : Val (rowsTy cs)} {ys : List Value},
    RepL R L (rowO k i st gs cs q x) ys → RepL R L (rowO k i st' gs cs q x) ys
  | [], _, _, _, h => h
  | .d t :: r, q, x, ys, h => by
    simp only [rowO] at h ⊢
    obtain ⟨c, d, rfl, hc, hd⟩ := h.split
    exact hc.append (rowO_weak hs hd)
  | .sl t :: r, q, x, ys, h => by
    simp only [rowO, RepL] at h ⊢
    obtain ⟨y, tl, rfl, hy, ht⟩ := h
    refine ⟨y, tl, rfl, ?_, rowO_weak hs ht⟩
    cases h1 : st' q with
    | true => simp [Rep]
    | false =>
      have h2 : st q = false := by
        cases h2 : st q with
        | true => rw [hs q h2] at h1; cases h1
        | false => rfl
      rw [h2] at hy
      exact hy

/-- what is read is as it is, or says less -/
theorem rdH_rdv {R : RC} {L : Ref → Option Pl} {w : World} {p : Pl} {h : List (Option Blk)} {r : Ref} {b b' : Blk} (e : rdH h r = some b) (e' : rdv h r = some b') (hk : BlkOK R L w p b') :
    BlkOK R L w p b ∧ b.frozen = b'.frozen := by
  cases r with
  | l id =>
    rw [rdH_l, e'] at e
    injection e with e
    subst e
    exact ⟨hk, rfl⟩
  | o k i q =>
    simp only [rdH] at e
    simp only [rdv] at e'
    split at e
    · rename_i tb htb
      rw [htb] at e'
      simp only at e'
      split at e
      · rename_i cs l st gs hct
        rw [hct] at e'
        simp only at e'
        split at e'
        · cases q with
          | zero =>
            simp only [viewO, Option.some.injEq] at e
            simp only [viewV, Option.some.injEq] at e'
            subst e; subst e'
            obtain ⟨h1, h2, h3, cc, T, h4, h5⟩ := hk
            exact ⟨⟨h1, h2, h3, cc, T, h4, rowO_weak (fun q hq => stale_mem (of_decide_eq_true hq)) h5⟩, rfl⟩
          | succ q =>
            simp only [viewO] at e
            simp only [viewV] at e'
            split at e
            · cases e
            · rename_i hns
              split at e
              · rename_i t y hs
                rw [hs] at e'
                simp only [Option.some.injEq] at e e'
                have hn : ¬ ((q + 1, i) ∈ st) := fun hm => by rw [stale_mem hm] at hns; cases hns
                rw [if_neg hn] at e'
                subst e; subst e'
                exact ⟨hk, rfl⟩
              · cases e
        · cases e'
      · cases e
    · cases e

section
variable {c : Ctx} {I : Nat → Prop} {L : Ref → Option Pl} {s : St} {a : Act} {w : World}

theorem cell?_heap {w w' : World} (b o : Nat) (h : w'.heap[b]? = w.heap[b]?) : w'.cell? ⟨b, o, none⟩ = w.cell? ⟨b, o, none⟩ := by
  simp only [World.cell?, h]

theorem cell?_cells {w : World} {b o : Nat} {cs : Array Value} {T : TypeId} {fz : Nat × Nat} (h : w.heap[b]? = some (.cells cs T fz)) : w.cell? ⟨b, o, none⟩ = cs[o]? := by
  simp [World.cell?, h]

/-- a world that is the same but for the blocks that somebody may change -/
theorem rle_of_heap {T : Stat} {I I' : Nat → Prop} {L L' : Ref → Option Pl} {w w' : World} (hi : ∀ b, I b → I' b) (h : ∀ b, I b → w'.heap[b]? = w.heap[b]?) (hl : LLe L L') :
    RLe (rcW T I L w) (rcW T I' L' w') :=
  ⟨hi, fun b o hb => cell?_heap b o (h b hb), rfl, fun _ _ _ hb => hl.hOf hb⟩

theorem Sim.size (h : Sim c I L s a w) : a.tmps.size = s.env.length := by
  have := h.env.length
  simpa using this

theorem getD_toList (xs : Array Value) (k : Nat) : xs.getD k undef = xs.toList.getD k undef := by
  simp [Array.getD_eq_getD_getElem?, List.getD_eq_getElem?_getD]

theorem Sim.tmp (h : Sim c I L s a w) (k : Nat) : Rep (c.rc I L w) L (s.env.getD k .top) (a.tmps.getD k undef) := by
  rw [getD_toList, List.getD_eq_getElem?_getD, List.getD_eq_getElem?_getD]
  cases hk : s.env[k]? with
  | none => simp [Rep]
  | some x =>
    obtain ⟨y, hy, hr⟩ := h.env.get k x hk
    simpa [hy] using hr

theorem rep_const (R : RC) (L : Ref → Option Pl) (v : Value) : Rep R L (ofConst v) v := by
  unfold ofConst
  split
  · rename_i cs
    simp only [Rep]
    refine ⟨cs, rfl, RepL.mk (by simp) ?_⟩
    intro i x y hx hy
    simp only [List.getElem?_map, Option.map_eq_some_iff] at hx
    obtain ⟨z, hz, rfl⟩ := hx
    rw [hz] at hy
    injection hy with hy
    simp [Rep, hy]
  · simp [Rep]

theorem Sim.eval (h : Sim c I L s a w) (x : Operand) : Rep (c.rc I L w) L (aeval s.env x) (a.eval x) := by
  cases x with
  | tmp t => exact h.tmp t
  | const v => exact rep_const _ _ v
  | global g => simp [aeval, Act.eval, Rep]
  | func f => simp only [aeval, Act.eval, Rep]; exact ⟨#[], #[], rfl, by simp [RepL], by simp [RepL]⟩

theorem Sim.evalL (h : Sim c I L s a w) : ∀ (xs : List Operand), RepL (c.rc I L w) L (xs.map (aeval s.env)) (xs.map a.eval)
  | [] => by simp [RepL]
  | x :: r => by simp only [List.map_cons, RepL]; exact ⟨_, _, rfl, h.eval x, h.evalL r⟩

theorem RepL.set {R : RC} {L : Ref → Option Pl} : ∀ {l : List AV} {ys : List Value} (_ : RepL R L l ys) (k : Nat) {x : AV} {y : Value}, Rep R L x y → RepL R L (l.set k x) (ys.set k y)
  | [], _, h, _, _, _, _ => by simp only [RepL] at h; subst h; simp [RepL]
  | a :: r, _, h, k, x, y, hx => by
    simp only [RepL] at h
    obtain ⟨z, t, rfl, hz, ht⟩ := h
    cases k with
    | zero => simp only [List.set_cons_zero, RepL]; exact ⟨y, t, rfl, hx, ht⟩
    | succ k => simp only [List.set_cons_succ, RepL]; exact ⟨z, _, rfl, hz, ht.set k hx⟩

theorem Sim.put (h : Sim c I L s a w) (d : Option Tmp) {x : AV} {v : Value} (hx : Rep (c.rc I L w) L x v) : Sim c I L ⟨putD s.env d x, s.heap⟩ (a.put d v) w := by
  cases d with
  | none => exact ⟨h.env, h.defers, h.blk, h.dom, h.own, h.inj, h.imm, h.i0, h.iN, h.same, h.fix, h.bx, h.grow, h.io⟩
  | some k =>
    refine ⟨?_, h.defers, h.blk, h.dom, h.own, h.inj, h.imm, h.i0, h.iN, h.same, h.fix, h.bx, h.grow, h.io⟩
    simp only [putD, Act.put, Array.toList_setIfInBounds]
    exact h.env.set k hx

theorem BlkOK.mono {R R' : RC} {L L' : Ref → Option Pl} {w w' : World} {p : Pl} {b : Blk} (hr : RLe R R') (hl : LLe L L') (hw : p.virt = false → w'.heap[p.b]? = w.heap[p.b]?)
    (hc : p.virt = false → ∀ o, R'.C p.b o = R.C p.b o) (h : BlkOK R L w p b) : BlkOK R' L' w' p b := by
  obtain ⟨hg, h⟩ := h
  refine ⟨hg, ?_⟩
  cases hct : b.ct with
  | box row =>
    rw [hct] at h
    obtain ⟨hv, ho, cs, T, hh, hrow⟩ := h
    exact ⟨hv, ho, cs, T, (hw hv).trans hh, RepL.mono hr hl hrow⟩
  | tab cs l st gs => rw [hct] at h; exact h
  | sl t l =>
    rw [hct] at h
    rcases h with h | ⟨hv, hpw, cs, T, hh, hs, hle, hi⟩
    · exact .inl h
    · refine .inr ⟨hv, hpw, cs, T, (hw hv).trans hh, hs, hle, fun i hlt => ?_⟩
      obtain ⟨d, hd, hat⟩ := hi i hlt
      exact ⟨d, hd.mono hr, fun j v hj => by rw [hc hv]; exact hat j v hj⟩

/-- A world that goes on: nothing that the state knows of has changed. More may be held for good. -/
theorem Sim.world (h : Sim c I L s a w) {I' : Nat → Prop} {w' : World} (hi : ∀ b, I b → I' b) (hs : w.heap.size ≤ w'.heap.size) (hw : ∀ b, b < w.heap.size → w'.heap[b]? = w.heap[b]?)
    (hn : ∀ b, I' b → b < w'.heap.size) (hm : ∀ b, I' b → I b ∨ w.heap.size ≤ b) (hio : IO w w') : Sim c I' L s a w' := by
  have hr : RLe (c.rc I L w) (c.rc I' L w') := rle_of_heap hi (fun b hb => hw b (h.imm b hb)) (LLe.refl L)
  refine ⟨h.env.mono hr (LLe.refl L), h.defers, ?_, h.dom, ?_, h.inj, hn, fun b hb => hi b (h.i0 b hb), ?_, ?_, h.fix, h.bx, Nat.le_trans h.grow hs, h.io.trans hio⟩
  · intro id b hb
    obtain ⟨p, hp, hk, hf⟩ := h.blk id b hb
    refine ⟨p, hp, hk.mono hr (LLe.refl L) (fun hv => hw _ (h.own id p hp hv).2) (fun hv o => cell?_heap _ _ (hw _ (h.own id p hp hv).2)), fun hz hv hI => ?_⟩
    rcases hm _ hI with hI | hI
    · exact hf hz hv hI
    · have := (h.own id p hp hv).2
      omega
  · intro id p hp hv
    have := h.own id p hp hv
    exact ⟨this.1, Nat.lt_of_lt_of_le this.2 hs⟩
  · intro b hb
    rcases hm b hb with hb | hb
    · exact h.iN b hb
    · exact .inr (.inl (Nat.le_trans h.grow hb))
  · intro b hb hn
    rw [hw b (Nat.lt_of_lt_of_le hb h.grow)]
    exact h.same b hb hn

theorem Sim.draw (h : Sim c I L s a w) {w' : World} (e : w'.heap = w.heap) (hio : IO w w') : Sim c I L s a w' :=
  h.world (fun _ hb => hb) (by rw [e]; exact Nat.le_refl _) (fun b _ => by rw [e]) (fun b hb => by rw [e]; exact h.imm b hb) (fun b hb => .inl hb) hio

/-- a place more -/
def addL (L : Ref → Option Pl) (id : Ref) (p : Pl) : Ref → Option Pl := fun i => if i = id then some p else L i

theorem addL_le {L : Ref → Option Pl} {id : Ref} {p : Pl} (h : ∀ q, L id = some q → p.w = q.w ∧ q.gen < p.gen) (hb : ¬ id.isBox) : LLe L (addL L id p) := by
  intro i q hq
  by_cases e : i = id
  · subst e
    exact ⟨p, by simp [addL], (h q hq).1, .inr ⟨(h q hq).2, hb⟩⟩
  · exact ⟨q, by simp [addL, e, hq], rfl, .inl rfl⟩

/-- Places and blocks turned, all at once. -/
theorem Sim.turn (h : Sim c I L s a w) {L' : Ref → Option Pl} {hp' : List (Option Blk)} {w' : World} (hl : LLe L L') (hs : w.heap.size ≤ w'.heap.size) (hio : IO w w')
    (hw : ∀ b, b < w.heap.size → (I b ∨ ∀ r q, L r = some q → q.virt = false → q.b ≠ b) → w'.heap[b]? = w.heap[b]?)
    (hblk : RLe (c.rc I L w) (c.rc I L' w') → ∀ r b, rdv hp' r = some b → ∃ p, L' r = some p ∧ BlkOK (c.rc I L' w') L' w' p b ∧ (b.frozen = false → p.virt = false → ¬ I p.b))
    (hdom : ∀ r p, L' r = some p → ∃ b, rdv hp' r = some b)
    (hown : ∀ r p, L' r = some p → p.virt = false → p.b < w'.heap.size ∧ (w.heap.size ≤ p.b ∨ ∃ r' q, L r' = some q ∧ q.virt = false ∧ q.b = p.b))
    (hinj : ∀ r r' p p', L' r = some p → L' r' = some p' → p.virt = false → p'.virt = false → p.b = p'.b → r = r') : Sim c I L' ⟨s.env, hp'⟩ a w' := by
  have hold : ∀ b, I b → w'.heap[b]? = w.heap[b]? := fun b hb => hw b (h.imm b hb) (.inl hb)
  have hr : RLe (c.rc I L w) (c.rc I L' w') := rle_of_heap (fun _ hb => hb) hold hl
  refine ⟨h.env.mono hr hl, h.defers, hblk hr, hdom, ?_, hinj, fun b hb => Nat.lt_of_lt_of_le (h.imm b hb) hs, h.i0, h.iN, ?_, h.fix, fun k i p hp => hl.box (h.bx k i p hp), Nat.le_trans h.grow hs, h.io.trans hio⟩
  · intro r p hp hv
    obtain ⟨h1, h2⟩ := hown r p hp hv
    refine ⟨?_, h1⟩
    rcases h2 with h2 | ⟨r', q, hq, hqv, hqb⟩
    · exact .inl (Nat.le_trans h.grow h2)
    · rw [← hqb]; exact (h.own r' q hq hqv).1
  · intro b hb hn
    have hlt := Nat.lt_of_lt_of_le hb h.grow
    rw [hw b hlt (.inr fun r q hq hqv hbq => by
      rcases (h.own r q hq hqv).1 with h1 | h1
      · omega
      · rw [hbq] at h1; exact hn h1)]
    exact h.same b hb hn

theorem rdv_set {h : List (Option Blk)} {id : Nat} {x : Option Blk} (ho : ∀ b, h[id]? = some (some b) → b.isTab = false) (hn : ∀ b, x = some b → b.isTab = false) {r : Ref} (hr : r ≠ .l id) : rdv (h.set id x) r = rdv h r := by
  cases r with
  | l id' =>
    have : id ≠ id' := fun e => hr (by rw [e])
    simp only [rdv, List.getElem?_set_ne this]
  | o k i q =>
    by_cases e : id = k
    · subst e
      have none1 : rdv h (.o id i q) = none := by
        simp only [rdv]
        split
        · rename_i b hb
          have := ho b hb
          unfold Blk.isTab at this
          split
          · rename_i hct; rw [hct] at this; cases this
          · rfl
        · rfl
      rw [none1]
      simp only [rdv]
      split
      · rename_i b hb
        by_cases hl : id < h.length
        · rw [List.getElem?_set_self hl] at hb
          injection hb with hb
          have := hn b hb
          unfold Blk.isTab at this
          split
          · rename_i hct; rw [hct] at this; cases this
          · rfl
        · rw [List.set_eq_of_length_le (by omega)] at hb
          have := ho b hb
          unfold Blk.isTab at this
          split
          · rename_i hct; rw [hct] at this; cases this
          · rfl
      · rfl
    · simp only [rdv, List.getElem?_set_ne e]

theorem rdH_set {h : List (Option Blk)} {id : Nat} {x : Option Blk} (ho : ∀ b, h[id]? = some (some b) → b.isTab = false) (hn : ∀ b, x = some b → b.isTab = false) {r : Ref} (hr : r ≠ .l id) : rdH (h.set id x) r = rdH h r := by
  cases r with
  | l id' =>
    have : id ≠ id' := fun e => hr (by rw [e])
    simp only [rdH, List.getElem?_set_ne this]
  | o k i q =>
    by_cases e : id = k
    · subst e
      have none1 : rdH h (.o id i q) = none := by
        simp only [rdH]
        split
        · rename_i b hb
          have := ho b hb
          unfold Blk.isTab at this
          split
          · rename_i hct; rw [hct] at this; cases this
          · rfl
        · rfl
      rw [none1]
      simp only [rdH]
      split
      · rename_i b hb
        by_cases hl : id < h.length
        · rw [List.getElem?_set_self hl] at hb
          injection hb with hb
          have := hn b hb
          unfold Blk.isTab at this
          split
          · rename_i hct; rw [hct] at this; cases this
          · rfl
        · rw [List.set_eq_of_length_le (by omega)] at hb
          have := ho b hb
          unfold Blk.isTab at this
          split
          · rename_i hct; rw [hct] at this; cases this
          · rfl
      · rfl
    · simp only [rdH, List.getElem?_set_ne e]

theorem rdv_set_self {h : List (Option Blk)} {id : Nat} {b : Blk} (hl : id < h.length) : rdv (h.set id (some b)) (.l id) = some b := by
  rw [rdv_l, List.getElem?_set_self hl]

/-- One block of the call's own is made, or turned. -/
theorem Sim.upd (h : Sim c I L s a w) {id : Nat} {p' : Pl} {b' : Blk} {w' : World} (hid : id < s.heap.length) (ho : ∀ b, s.heap[id]? = some (some b) → b.isTab = false) (hnt : b'.isTab = false) (hp : ∀ q, L (.l id) = some q → p'.w = q.w ∧ (p' = q ∨ q.gen < p'.gen))
    (hb : p'.virt = false → p'.b < w'.heap.size ∧ (w.heap.size ≤ p'.b ∨ ∃ q, L (.l id) = some q ∧ q.virt = false ∧ q.b = p'.b)) (hs : w.heap.size ≤ w'.heap.size) (hio : IO w w')
    (hw : ∀ b, b < w.heap.size → (∀ q, L (.l id) = some q → q.virt = false → b = q.b → I b) → w'.heap[b]? = w.heap[b]?)
    (hk : RLe (c.rc I L w) (c.rc I (addL L (.l id) p') w') → LLe L (addL L (.l id) p') → BlkOK (c.rc I (addL L (.l id) p') w') (addL L (.l id) p') w' p' b') (hf : b'.frozen = false → p'.virt = false → ¬ I p'.b) :
    Sim c I (addL L (.l id) p') ⟨s.env, s.heap.set id (some b')⟩ a w' := by
  have hl : LLe L (addL L (.l id) p') := by
    intro i q hq
    by_cases e : i = .l id
    · subst e
      refine ⟨p', by simp [addL], (hp q hq).1, ?_⟩
      rcases (hp q hq).2 with h | h
      · exact .inl h
      · exact .inr ⟨h, fun hb => hb⟩
    · exact ⟨q, by simp [addL, e, hq], rfl, .inl rfl⟩
  have hoth : ∀ i p, i ≠ .l id → L i = some p → p.virt = false → w'.heap[p.b]? = w.heap[p.b]? := by
    intro i p e hp hv
    refine hw _ (h.own i p hp hv).2 fun q hq hqv hbq => ?_
    exact absurd (h.inj i (.l id) p q hp hq hv hqv hbq) e
  have key : ∀ i p, i ≠ .l id → L i = some p → p.virt = false → p'.virt = false → p.b ≠ p'.b := by
    intro i p e hip hv hv' hbb
    rcases (hb hv').2 with h2 | ⟨q, hq, hqv, hqb⟩
    · have := (h.own i p hip hv).2
      omega
    · exact e (h.inj i (.l id) p q hip hq hv hqv (by rw [hqb]; exact hbb))
  refine h.turn hl hs hio (fun b hb hor => hw b hb fun q hq hqv hbq => ?_) (fun hr i b hib => ?_) (fun i p hip => ?_) (fun i p hip hv => ?_) (fun i j p q hip hjq hv hqv hbb => ?_)
  · rcases hor with hI | hne
    · exact hI
    · exact absurd hbq.symm (hne _ q hq hqv)
  · by_cases e : i = .l id
    · subst e
      rw [rdv_set_self hid] at hib
      injection hib with hib
      subst hib
      exact ⟨p', by simp [addL], hk hr hl, hf⟩
    · rw [rdv_set ho (fun b e => by injection e with e; subst e; exact hnt) e] at hib
      obtain ⟨p, hp, hk, hz⟩ := h.blk i b hib
      exact ⟨p, by simp [addL, e, hp], hk.mono hr hl (fun hv => hoth i p e hp hv) (fun hv o => cell?_heap _ _ (hoth i p e hp hv)), hz⟩
  · by_cases e : i = .l id
    · subst e
      exact ⟨b', rdv_set_self hid⟩
    · simp only [addL, e, if_false] at hip
      obtain ⟨b, hb⟩ := h.dom i p hip
      exact ⟨b, by rw [rdv_set ho (fun b e => by injection e with e; subst e; exact hnt) e]; exact hb⟩
  · by_cases e : i = .l id
    · subst e
      simp only [addL, if_true, Option.some.injEq] at hip
      subst hip
      obtain ⟨h1, h2⟩ := hb hv
      refine ⟨h1, ?_⟩
      rcases h2 with h2 | ⟨q, hq, hqv, hqb⟩
      · exact .inl h2
      · exact .inr ⟨_, q, hq, hqv, hqb⟩
    · simp only [addL, e, if_false] at hip
      have := h.own i p hip hv
      exact ⟨Nat.lt_of_lt_of_le this.2 hs, .inr ⟨i, p, hip, hv, rfl⟩⟩
  · by_cases e : i = .l id <;> by_cases e' : j = .l id
    · rw [e, e']
    · subst e
      simp only [addL, if_true, Option.some.injEq] at hip
      simp only [addL, e', if_false] at hjq
      subst hip
      exact absurd hbb.symm (key j q e' hjq hqv hv)
    · subst e'
      simp only [addL, if_true, Option.some.injEq] at hjq
      simp only [addL, e, if_false] at hip
      subst hjq
      exact absurd hbb (key i p e hip hv hqv)
    · simp only [addL, e, if_false] at hip
      simp only [addL, e', if_false] at hjq
      exact h.inj i j p q hip hjq hv hqv hbb

/-- What is handed out is held for good. -/
theorem Sim.freeze (h : Sim c I L s a w) {I' : Nat → Prop} {hp' : List (Option Blk)} (hi : ∀ b, I b → I' b) (hm : ∀ b, I' b → I b ∨ ∃ id p, L id = some p ∧ p.virt = false ∧ b = p.b ∧ ∀ b' : Blk, rdv hp' id = some b' → b'.frozen = true)
    (hh : ∀ (id : Ref) (b' : Blk), rdv hp' id = some b' → ∃ b : Blk, rdv s.heap id = some b ∧ b'.ct = b.ct ∧ b'.gen = b.gen ∧ (b'.frozen = false → b.frozen = false))
    (hd : ∀ (id : Ref) (b : Blk), rdv s.heap id = some b → ∃ b' : Blk, rdv hp' id = some b') : Sim c I' L ⟨s.env, hp'⟩ a w := by
  have hr : RLe (c.rc I L w) (c.rc I' L w) := rle_of_heap hi (fun _ _ => rfl) (LLe.refl L)
  refine ⟨h.env.mono hr (LLe.refl L), h.defers, ?_, ?_, h.own, h.inj, ?_, fun b hb => hi b (h.i0 b hb), ?_, h.same, h.fix, h.bx, h.grow, h.io⟩
  · intro id b' hb'
    obtain ⟨b, hb, hct, hg, hz⟩ := hh id b' hb'
    obtain ⟨p, hp, hk, hf⟩ := h.blk id b hb
    refine ⟨p, hp, ?_, fun hz' hv hI => ?_⟩
    · have := hk.mono hr (LLe.refl L) (w' := w) (fun _ => rfl) (fun _ _ => rfl)
      unfold BlkOK at this ⊢
      rw [hct, hg]
      exact this
    · rcases hm _ hI with hI | ⟨id', q, hq, hqv, hbq, hfr⟩
      · exact hf (hz hz') hv hI
      · have e := h.inj id id' p q hp hq hv hqv hbq
        subst e
        rw [hfr b' hb'] at hz'
        cases hz'
  · intro id p hp
    obtain ⟨b, hb⟩ := h.dom id p hp
    exact hd id b hb
  · intro b hb
    rcases hm b hb with hb | ⟨id, p, hp, hv, rfl, _⟩
    · exact h.imm b hb
    · exact (h.own id p hp hv).2
  · intro b hb
    rcases hm b hb with hb | ⟨id, p, hp, hv, rfl, _⟩
    · exact h.iN b hb
    · exact .inr (h.own id p hp hv).1

/-- A block that is read, where its place is known. -/
theorem Sim.get (h : Sim c I L s a w) {r : Ref} {p : Pl} {b : Blk} (hp : L r = some p) (hb : s.rd r = some b) : BlkOK (c.rc I L w) L w p b ∧ (b.frozen = false → p.virt = false → ¬ I p.b) := by
  obtain ⟨b', hb'⟩ := h.dom r p hp
  obtain ⟨p', hp', hk, hf⟩ := h.blk r b' hb'
  rw [hp] at hp'
  injection hp' with hp'
  subst hp'
  obtain ⟨h1, h2⟩ := rdH_rdv hb hb' hk
  exact ⟨h1, fun hz => hf (by rw [← h2]; exact hz)⟩

/-- where an object lies: its variable -/
theorem Sim.objL (h : Sim c I L s a w) {k i b : Nat} (e : (c.rc I L w).H k i = some b) : ∃ p, L (.o k i 0) = some p ∧ p.b = b ∧ p.o = 0 ∧ p.virt = false ∧ p.gen = 0 ∧ ∃ cs T, w.heap[p.b]? = some (.cells cs T (0, 0)) := by
  simp only [Ctx.rc, rcW, hOf, Option.map_eq_some_iff] at e
  obtain ⟨p, hp, rfl⟩ := e
  refine ⟨p, hp, rfl, ?_⟩
  obtain ⟨b, hb⟩ := h.dom _ p hp
  obtain ⟨p', hp', hk, _⟩ := h.blk _ b hb
  rw [hp] at hp'
  injection hp' with hp'
  subst hp'
  simp only [rdv] at hb
  split at hb
  · split at hb
    · split at hb
      · simp only [viewV, Option.some.injEq] at hb
        subst hb
        obtain ⟨h1, h2, h3, cc, T, h4, _⟩ := hk
        exact ⟨h3, h2, h1, cc, T, h4⟩
      · cases hb
    · cases hb
  · cases hb

theorem Sim.objInj (h : Sim c I L s a w) (k i j b : Nat) (e : (c.rc I L w).H k i = some b) (e' : (c.rc I L w).H k j = some b) : i = j := by
  obtain ⟨p, hp, hb, _, hv, _⟩ := h.objL e
  obtain ⟨p', hp', hb', _, hv', _⟩ := h.objL e'
  have := h.inj _ _ p p' hp hp' hv hv' (by rw [hb, hb'])
  injection this

theorem Sim.objCell (h : Sim c I L s a w) (k i b : Nat) (e : (c.rc I L w).H k i = some b) : ∃ cs T, w.heap[b]? = some (.cells cs T (0, 0)) := by
  obtain ⟨p, hp, hb, _, hv, _, hc⟩ := h.objL e
  rw [hb] at hc
  exact hc

end
end Go.Eng
